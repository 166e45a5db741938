/-
  Part 3 of the proof.
-/
import Derived.Test.YtefoleocbhkobaaGreatDoorN3x2
namespace Go.Proofs.YtefoleocbhkobaaGreatDoor
open Go Go.Ev
set_option linter.unusedSectionVars false
set_option linter.unusedSimpArgs false
set_option linter.unusedVariables false
def ob3_1_1 : List Opn := [⟨some 67, none, .bin .lss (.t 66) (.t 65)⟩]
def ob3_1_2 : List Opn := [⟨some 68, none, .mov (.t 66)⟩,
⟨some 69, none, .iaddr 3 (.t 64) (.t 66)⟩,
⟨some 70, none, .load 3 true (.t 69)⟩,
⟨some 5, none, .alloc 100005 [.int .i64 0, .nul, .bool false]⟩,
⟨some 4, none, .mov (.t 68)⟩,
⟨none, none, .store 3 (.t 5) (.t 70)⟩]
def ob3_1_3 : List Opn := [⟨some 71, none, .faddr 0 (.t 5)⟩,
⟨some 72, none, .load 1 false (.t 71)⟩,
⟨some 73, none, .eq true false [.i] (.t 72) (.c (.int .i64 1))⟩,
⟨some 74, none, .mov (.t 73)⟩,
⟨some 75, some (74, false), .faddr 2 (.t 5)⟩,
⟨some 76, some (74, false), .load 1 false (.t 75)⟩,
⟨some 77, some (74, false), .un .not (.t 76)⟩,
⟨some 78, none, .pick (.t 74) (.c (.bool true)) (.t 77)⟩,
⟨some 79, none, .mov (.t 78)⟩,
⟨some 80, some (79, false), .faddr 1 (.t 5)⟩,
⟨some 81, some (79, false), .load 1 false (.t 80)⟩,
⟨some 82, some (79, false), .len (.t 81)⟩,
⟨some 83, some (79, false), .eq true false [.i] (.t 82) (.c (.int .i64 2))⟩,
⟨some 84, none, .pick (.t 79) (.c (.bool true)) (.t 83)⟩,
⟨some 85, none, .mov (.t 84)⟩,
⟨some 86, some (85, false), .faddr 1 (.t 5)⟩,
⟨some 87, some (85, false), .load 1 false (.t 86)⟩,
⟨some 88, some (85, false), .iaddr 1 (.t 87) (.c (.int .i64 0))⟩,
⟨some 89, some (85, false), .load 1 false (.t 88)⟩,
⟨some 90, some (85, false), .mov (.t 4)⟩,
⟨some 91, some (85, false), .bin .add (.t 90) (.c (.int .i64 1))⟩,
⟨some 92, some (85, false), .eq true false [.i] (.t 89) (.t 91)⟩,
⟨some 93, none, .pick (.t 85) (.c (.bool true)) (.t 92)⟩,
⟨some 94, none, .mov (.t 93)⟩,
⟨some 95, some (94, false), .faddr 1 (.t 5)⟩,
⟨some 96, some (94, false), .load 1 false (.t 95)⟩,
⟨some 97, some (94, false), .iaddr 1 (.t 96) (.c (.int .i64 1))⟩,
⟨some 98, some (94, false), .load 1 false (.t 97)⟩,
⟨some 99, some (94, false), .mov (.t 4)⟩,
⟨some 100, some (94, false), .bin .add (.t 99) (.c (.int .i64 1))⟩,
⟨some 101, some (94, false), .bin .rem (.t 100) (.c (.int .i64 3))⟩,
⟨some 102, some (94, false), .bin .add (.t 101) (.c (.int .i64 1))⟩,
⟨some 103, some (94, false), .eq true false [.i] (.t 98) (.t 102)⟩,
⟨some 104, none, .pick (.t 94) (.c (.bool true)) (.t 103)⟩,
⟨some 105, none, .mov (.t 104)⟩,
⟨some 106, some (105, false), .faddr 4 (.t 3)⟩,
⟨some 107, some (105, false), .load 1 false (.t 106)⟩,
⟨some 108, some (105, false), .mov (.t 4)⟩,
⟨some 109, some (105, false), .iaddr 3 (.t 107) (.t 108)⟩,
⟨some 110, some (105, false), .load 3 true (.t 109)⟩,
⟨some 111, some (105, false), .build [.int .i64 0, .int .i64 0, .int .i64 0] []⟩,
⟨some 112, some (105, false), .eq true true [.i, .i, .i] (.t 110) (.t 111)⟩,
⟨some 113, none, .pick (.t 105) (.c (.bool true)) (.t 112)⟩]
def ob3_1_4 : List Opn := [⟨some 2, none, .mov (.c (.bool false))⟩]
def ob3_1_5 : List Opn := [⟨some 114, none, .bin .add (.t 66) (.c (.int .i64 1))⟩,
⟨some 66, none, .mov (.t 114)⟩]
def b3_1 : IC := (.seq (.gh (.keep [1, 3, 64, 65, 66] [100001, 100003]))
(.seq (.reg ob3_1_1)
(.seq (.cond (.t 67) (.skip)
(.exit 0))
(.seq (.block 1 (.seq (.reg ob3_1_2)
(.seq (.reg ob3_1_3)
(.cond (.t 113) (.seq (.reg ob3_1_4)
(.ret))
(.skip)))))
(.reg ob3_1_5)))))
def ok3_1_1 : List Opn := [⟨some 115, none, .load 29 true (.t 1)⟩,
⟨some 116, none, .call 12 [(.shut, (.t 115))] [] 1210116000⟩,
⟨some 117, none, .load 29 true (.t 1)⟩,
⟨some 118, none, .call 9 [(.shut, (.t 117))] [] 1210118000⟩,
⟨some 119, none, .call 13 [(.shut, (.t 118))] [] 1210119000⟩,
⟨some 120, none, .eq false false [.b] (.t 116) (.t 119)⟩,
⟨some 121, none, .mov (.t 120)⟩,
⟨some 122, some (121, true), .load 29 true (.t 3)⟩,
⟨some 123, some (121, true), .call 12 [(.shut, (.t 122))] [] 1210123000⟩,
⟨some 124, none, .pick (.t 121) (.t 123) (.c (.bool false))⟩,
⟨some 125, none, .mov (.t 124)⟩,
⟨some 126, some (125, true), .call 10 [] [] 1210126000⟩,
⟨some 127, none, .pick (.t 125) (.t 126) (.c (.bool false))⟩,
⟨some 2, none, .mov (.t 127)⟩]
def k3_1 : IC := (.seq (.dreg ok3_1_1
[(1, 2)])
(.ret))
def o3_1 : List Opn := [⟨some 1, none, .box 100001 (.t 0)⟩,
⟨some 2, none, .mov (.c (.bool false))⟩]
def o3_2 : List Opn := [⟨some 6, none, .load 29 true (.t 1)⟩,
⟨some 7, none, .call 9 [(.shut, (.t 6))] [] 110007000⟩,
⟨some 8, none, .call 8 [(.shut, (.t 7))] [] 110008000⟩,
⟨some 9, none, .un .not (.t 8)⟩]
def o3_3 : List Opn := [⟨some 10, none, .call 10 [] [] 210010000⟩,
⟨some 2, none, .mov (.t 10)⟩]
def o3_4 : List Opn := [⟨some 11, none, .call 11 [] [] 310011000⟩,
⟨some 3, none, .alloc 100003 [.nul, .nul, .int .i64 0, .nul, .nul, .int .i64 0, .int .i64 0, .int .i64 0, .int .i64 0, .int .i64 0, .int .i64 0, .int .i64 0, .int .i64 0, .int .i64 0, .int .i64 0, .int .i64 0, .str [], .nul, .int .i64 0, .int .i64 0, .int .i64 0, .str [], .str [], .nul, .int .i64 0, .int .i64 0, .int .i64 0, .nul, .nul]⟩,
⟨none, none, .store 29 (.t 3) (.t 11)⟩]
def o3_5 : List Opn := [⟨some 12, none, .faddr 1 (.t 3)⟩,
⟨some 13, none, .load 1 false (.t 12)⟩,
⟨some 14, none, .len (.t 13)⟩,
⟨some 15, none, .eq true false [.i] (.t 14) (.c (.int .i64 3))⟩,
⟨some 16, none, .mov (.t 15)⟩,
⟨some 17, some (16, false), .faddr 2 (.t 3)⟩,
⟨some 18, some (16, false), .load 1 false (.t 17)⟩,
⟨some 19, some (16, false), .eq true false [.i] (.t 18) (.c (.int .i64 2))⟩,
⟨some 20, none, .pick (.t 16) (.c (.bool true)) (.t 19)⟩,
⟨some 21, none, .mov (.t 20)⟩,
⟨some 22, some (21, false), .faddr 0 (.t 3)⟩,
⟨some 23, some (21, false), .load 1 false (.t 22)⟩,
⟨some 24, some (21, false), .len (.t 23)⟩,
⟨some 25, some (21, false), .eq true false [.i] (.t 24) (.c (.int .i64 1))⟩,
⟨some 26, none, .pick (.t 21) (.c (.bool true)) (.t 25)⟩,
⟨some 27, none, .mov (.t 26)⟩,
⟨some 28, some (27, false), .faddr 0 (.t 3)⟩,
⟨some 29, some (27, false), .load 1 false (.t 28)⟩,
⟨some 30, some (27, false), .iaddr 5 (.t 29) (.c (.int .i64 0))⟩,
⟨some 31, some (27, false), .load 5 true (.t 30)⟩,
⟨some 32, some (27, false), .build [.str [], .str [], .int .i64 0, .int .i64 0, .int .i64 0] [(2, 1, (.c (.int .i64 1))), (3, 1, (.c (.int .i64 1))), (4, 1, (.c (.int .i64 1)))]⟩,
⟨some 33, some (27, false), .eq true true [.s, .s, .i, .i, .i] (.t 31) (.t 32)⟩,
⟨some 34, none, .pick (.t 27) (.c (.bool true)) (.t 33)⟩,
⟨some 35, none, .mov (.t 34)⟩,
⟨some 36, some (35, false), .faddr 4 (.t 3)⟩,
⟨some 37, some (35, false), .load 1 false (.t 36)⟩,
⟨some 38, some (35, false), .len (.t 37)⟩,
⟨some 39, some (35, false), .eq true false [.i] (.t 38) (.c (.int .i64 3))⟩,
⟨some 40, none, .pick (.t 35) (.c (.bool true)) (.t 39)⟩,
⟨some 41, none, .mov (.t 40)⟩,
⟨some 42, some (41, false), .faddr 5 (.t 3)⟩,
⟨some 43, some (41, false), .load 3 true (.t 42)⟩,
⟨some 44, some (41, false), .build [.int .i64 0, .int .i64 0, .int .i64 0] []⟩,
⟨some 45, some (41, false), .eq true true [.i, .i, .i] (.t 43) (.t 44)⟩,
⟨some 46, none, .pick (.t 41) (.c (.bool true)) (.t 45)⟩,
⟨some 47, none, .mov (.t 46)⟩,
⟨some 48, some (47, false), .faddr 8 (.t 3)⟩,
⟨some 49, some (47, false), .faddr 0 (.t 48)⟩,
⟨some 50, some (47, false), .load 1 false (.t 49)⟩,
⟨some 51, some (47, false), .eq true false [.i] (.t 50) (.c (.int .i64 0))⟩,
⟨some 52, none, .pick (.t 47) (.c (.bool true)) (.t 51)⟩,
⟨some 53, none, .mov (.t 52)⟩,
⟨some 54, some (53, false), .faddr 3 (.t 3)⟩,
⟨some 55, some (53, false), .load 1 false (.t 54)⟩,
⟨some 56, some (53, false), .len (.t 55)⟩,
⟨some 57, some (53, false), .faddr 28 (.t 3)⟩,
⟨some 58, some (53, false), .load 1 false (.t 57)⟩,
⟨some 59, some (53, false), .len (.t 58)⟩,
⟨some 60, some (53, false), .bin .add (.t 56) (.t 59)⟩,
⟨some 61, some (53, false), .bin .gtr (.t 60) (.c (.int .i64 0))⟩,
⟨some 62, none, .pick (.t 53) (.c (.bool true)) (.t 61)⟩]
def o3_6 : List Opn := [⟨some 2, none, .mov (.c (.bool false))⟩]
def o3_7 : List Opn := [⟨some 63, none, .faddr 1 (.t 3)⟩,
⟨some 64, none, .load 1 false (.t 63)⟩,
⟨some 65, none, .len (.t 64)⟩,
⟨some 66, none, .mov (.c (.int .i64 0))⟩]
def c3 : IFn := ⟨1, [.t 2], [], [],
.seq (.reg o3_1)
(.seq (.seq (.reg o3_2)
(.cond (.t 9) (.seq (.reg o3_3)
(.ret))
(.skip)))
(.seq (.reg o3_4)
(.seq (.seq (.reg o3_5)
(.cond (.t 62) (.seq (.reg o3_6)
(.ret))
(.skip)))
(.seq (.seq (.reg o3_7)
(.block 0 (.loop b3_1)))
k3_1))))⟩
def o4_1 : List Opn := [⟨some 2, none, .box 100002 (.t 0)⟩,
⟨some 3, none, .box 100003 (.t 1)⟩,
⟨some 4, none, .mov (.c (.bool false))⟩]
def o4_2 : List Opn := [⟨some 9, none, .load 29 true (.t 2)⟩,
⟨some 10, none, .call 9 [(.shut, (.t 9))] [] 110010000⟩,
⟨some 11, none, .call 8 [(.shut, (.t 10))] [] 110011000⟩,
⟨some 12, none, .un .not (.t 11)⟩,
⟨some 13, none, .mov (.t 12)⟩,
⟨some 14, some (13, false), .faddr 5 (.t 3)⟩,
⟨some 15, some (13, false), .load 1 false (.t 14)⟩,
⟨some 16, some (13, false), .len (.t 15)⟩,
⟨some 17, some (13, false), .bin .gtr (.t 16) (.c (.int .i64 40))⟩,
⟨some 18, none, .pick (.t 13) (.c (.bool true)) (.t 17)⟩,
⟨some 19, none, .mov (.t 18)⟩,
⟨some 20, some (19, false), .faddr 4 (.t 3)⟩,
⟨some 21, some (19, false), .load 1 false (.t 20)⟩,
⟨some 22, some (19, false), .lenS (.t 21)⟩,
⟨some 23, some (19, false), .bin .gtr (.t 22) (.c (.int .i64 100))⟩,
⟨some 24, none, .pick (.t 19) (.c (.bool true)) (.t 23)⟩]
def o4_3 : List Opn := [⟨some 25, none, .call 10 [] [] 210025000⟩,
⟨some 4, none, .mov (.t 25)⟩]
def o4_4 : List Opn := [⟨some 27, none, .load 29 true (.t 2)⟩,
⟨some 28, none, .load 6 true (.t 3)⟩,
⟨some 29, none, .call 14 [(.shut, (.t 27)), (.shut, (.t 28))] [] 310029000⟩,
⟨some 26, none, .mov (.t 29)⟩,
⟨some 30, none, .ext (.t 26) 0⟩,
⟨some 31, none, .ext (.t 26) 1⟩,
⟨some 5, none, .alloc 100005 [.nul, .nul, .int .i64 0, .nul, .nul, .int .i64 0, .int .i64 0, .int .i64 0, .int .i64 0, .int .i64 0, .int .i64 0, .int .i64 0, .int .i64 0, .int .i64 0, .int .i64 0, .int .i64 0, .str [], .nul, .int .i64 0, .int .i64 0, .int .i64 0, .str [], .str [], .nul, .int .i64 0, .int .i64 0, .int .i64 0, .nul, .nul]⟩,
⟨none, none, .store 29 (.t 5) (.t 30)⟩,
⟨some 6, none, .mov (.t 31)⟩]
def o4_5 : List Opn := [⟨some 32, none, .load 29 true (.t 2)⟩,
⟨some 33, none, .call 9 [(.shut, (.t 32))] [] 410033000⟩,
⟨some 34, none, .call 13 [(.shut, (.t 33))] [] 410034000⟩,
⟨some 35, none, .un .not (.t 34)⟩]
def o4_6 : List Opn := [⟨some 36, none, .load 29 true (.t 5)⟩,
⟨some 37, none, .call 9 [(.shut, (.t 36))] [] 510037000⟩,
⟨some 38, none, .load 29 true (.t 2)⟩,
⟨some 39, none, .call 9 [(.shut, (.t 38))] [] 510039000⟩,
⟨some 40, none, .call 15 [(.shut, (.t 37)), (.shut, (.t 39))] [] 510040000⟩,
⟨some 41, none, .mov (.t 40)⟩,
⟨some 42, some (41, true), .mov (.t 6)⟩,
⟨some 43, some (41, true), .eq false false [.i] (.t 42) (.c (.int .i64 1))⟩,
⟨some 44, none, .pick (.t 41) (.t 43) (.c (.bool false))⟩,
⟨some 45, none, .mov (.t 44)⟩,
⟨some 46, some (45, true), .call 10 [] [] 510046000⟩,
⟨some 47, none, .pick (.t 45) (.t 46) (.c (.bool false))⟩,
⟨some 4, none, .mov (.t 47)⟩]
def o4_7 : List Opn := [⟨some 49, none, .load 29 true (.t 2)⟩,
⟨some 50, none, .call 9 [(.shut, (.t 49))] [] 610050000⟩,
⟨some 51, none, .load 6 true (.t 3)⟩,
⟨some 52, none, .call 16 [(.shut, (.t 50)), (.shut, (.t 51))] [] 610052000⟩,
⟨some 48, none, .mov (.t 52)⟩,
⟨some 53, none, .ext (.t 48) 0⟩,
⟨some 54, none, .ext (.t 48) 1⟩,
⟨some 7, none, .alloc 100007 [.nul, .nul, .int .i64 0, .nul, .nul, .int .i64 0, .int .i64 0, .int .i64 0, .int .i64 0, .int .i64 0, .int .i64 0, .int .i64 0, .int .i64 0, .int .i64 0, .int .i64 0, .int .i64 0, .str [], .nul, .int .i64 0, .int .i64 0, .int .i64 0, .str [], .str [], .nul, .int .i64 0, .int .i64 0, .int .i64 0, .nul, .nul]⟩,
⟨none, none, .store 29 (.t 7) (.t 53)⟩,
⟨some 8, none, .mov (.t 54)⟩]
def o4_8 : List Opn := [⟨some 55, none, .load 29 true (.t 5)⟩,
⟨some 56, none, .call 9 [(.shut, (.t 55))] [] 710056000⟩,
⟨some 57, none, .load 29 true (.t 7)⟩,
⟨some 58, none, .call 15 [(.shut, (.t 56)), (.shut, (.t 57))] [] 710058000⟩,
⟨some 59, none, .mov (.t 58)⟩,
⟨some 60, some (59, true), .mov (.t 6)⟩,
⟨some 61, some (59, true), .mov (.t 8)⟩,
⟨some 62, some (59, true), .eq false false [.i] (.t 60) (.t 61)⟩,
⟨some 63, none, .pick (.t 59) (.t 62) (.c (.bool false))⟩,
⟨some 64, none, .mov (.t 63)⟩,
⟨some 65, some (64, true), .call 10 [] [] 710065000⟩,
⟨some 66, none, .pick (.t 64) (.t 65) (.c (.bool false))⟩,
⟨some 4, none, .mov (.t 66)⟩]
def c4 : IFn := ⟨2, [.t 4], [], [],
.seq (.reg o4_1)
(.seq (.seq (.reg o4_2)
(.cond (.t 24) (.seq (.reg o4_3)
(.ret))
(.skip)))
(.seq (.reg o4_4)
(.seq (.seq (.reg o4_5)
(.cond (.t 35) (.seq (.dreg o4_6
[(1, 2)])
(.ret))
(.skip)))
(.seq (.dreg o4_7
[(1, 2), (0, 7), (1, 7), (2, 7), (3, 7)])
(.seq (.dreg o4_8
[(1, 2)])
(.ret))))))⟩
def o5_1 : List Opn := [⟨some 1, none, .box 100001 (.t 0)⟩,
⟨some 2, none, .mov (.c (.bool false))⟩]
def o5_2 : List Opn := [⟨some 7, none, .load 29 true (.t 1)⟩,
⟨some 8, none, .call 9 [(.shut, (.t 7))] [] 110008000⟩,
⟨some 9, none, .call 8 [(.shut, (.t 8))] [] 110009000⟩,
⟨some 10, none, .un .not (.t 9)⟩]
def o5_3 : List Opn := [⟨some 11, none, .call 10 [] [] 210011000⟩,
⟨some 2, none, .mov (.t 11)⟩]
def o5_4 : List Opn := [⟨some 13, none, .load 29 true (.t 1)⟩,
⟨some 14, none, .call 17 [(.shut, (.t 13))] [] 310014000⟩,
⟨some 12, none, .mov (.t 14)⟩,
⟨some 15, none, .ext (.t 12) 0⟩,
⟨some 16, none, .ext (.t 12) 1⟩,
⟨some 3, none, .alloc 100003 [.nul, .nul, .int .i64 0, .nul, .nul, .int .i64 0, .int .i64 0, .int .i64 0, .int .i64 0, .int .i64 0, .int .i64 0, .int .i64 0, .int .i64 0, .int .i64 0, .int .i64 0, .int .i64 0, .str [], .nul, .int .i64 0, .int .i64 0, .int .i64 0, .str [], .str [], .nul, .int .i64 0, .int .i64 0, .int .i64 0, .nul, .nul]⟩,
⟨none, none, .store 29 (.t 3) (.t 15)⟩,
⟨some 4, none, .mov (.t 16)⟩]
def o5_5 : List Opn := [⟨some 17, none, .load 29 true (.t 1)⟩,
⟨some 18, none, .call 9 [(.shut, (.t 17))] [] 410018000⟩,
⟨some 19, none, .call 13 [(.shut, (.t 18))] [] 410019000⟩,
⟨some 20, none, .un .not (.t 19)⟩]
def o5_6 : List Opn := [⟨some 21, none, .load 29 true (.t 3)⟩,
⟨some 22, none, .call 9 [(.shut, (.t 21))] [] 510022000⟩,
⟨some 23, none, .load 29 true (.t 1)⟩,
⟨some 24, none, .call 9 [(.shut, (.t 23))] [] 510024000⟩,
⟨some 25, none, .call 15 [(.shut, (.t 22)), (.shut, (.t 24))] [] 510025000⟩,
⟨some 26, none, .mov (.t 25)⟩,
⟨some 27, some (26, true), .mov (.t 4)⟩,
⟨some 28, some (26, true), .len (.t 27)⟩,
⟨some 29, some (26, true), .eq false false [.i] (.t 28) (.c (.int .i64 0))⟩,
⟨some 30, none, .pick (.t 26) (.t 29) (.c (.bool false))⟩,
⟨some 31, none, .mov (.t 30)⟩,
⟨some 32, some (31, true), .call 10 [] [] 510032000⟩,
⟨some 33, none, .pick (.t 31) (.t 32) (.c (.bool false))⟩,
⟨some 2, none, .mov (.t 33)⟩]
def o5_7 : List Opn := [⟨some 35, none, .load 29 true (.t 1)⟩,
⟨some 36, none, .call 9 [(.shut, (.t 35))] [] 610036000⟩,
⟨some 37, none, .call 18 [(.shut, (.t 36))] [] 610037000⟩,
⟨some 34, none, .mov (.t 37)⟩,
⟨some 38, none, .ext (.t 34) 0⟩,
⟨some 39, none, .ext (.t 34) 1⟩,
⟨some 5, none, .alloc 100005 [.nul, .nul, .int .i64 0, .nul, .nul, .int .i64 0, .int .i64 0, .int .i64 0, .int .i64 0, .int .i64 0, .int .i64 0, .int .i64 0, .int .i64 0, .int .i64 0, .int .i64 0, .int .i64 0, .str [], .nul, .int .i64 0, .int .i64 0, .int .i64 0, .str [], .str [], .nul, .int .i64 0, .int .i64 0, .int .i64 0, .nul, .nul]⟩,
⟨none, none, .store 29 (.t 5) (.t 38)⟩,
⟨some 6, none, .mov (.t 39)⟩]
def o5_8 : List Opn := [⟨some 40, none, .load 29 true (.t 3)⟩,
⟨some 41, none, .call 9 [(.shut, (.t 40))] [] 710041000⟩,
⟨some 42, none, .load 29 true (.t 5)⟩,
⟨some 43, none, .call 15 [(.shut, (.t 41)), (.shut, (.t 42))] [] 710043000⟩,
⟨some 44, none, .mov (.t 43)⟩,
⟨some 45, some (44, true), .mov (.t 4)⟩,
⟨some 46, some (44, true), .mov (.t 6)⟩,
⟨some 47, some (44, true), .call 19 [(.shut, (.t 45)), (.shut, (.t 46))] [] 710047000⟩,
⟨some 48, none, .pick (.t 44) (.t 47) (.c (.bool false))⟩,
⟨some 49, none, .mov (.t 48)⟩,
⟨some 50, some (49, true), .call 10 [] [] 710050000⟩,
⟨some 51, none, .pick (.t 49) (.t 50) (.c (.bool false))⟩,
⟨some 2, none, .mov (.t 51)⟩]
def c5 : IFn := ⟨1, [.t 2], [], [],
.seq (.reg o5_1)
(.seq (.seq (.reg o5_2)
(.cond (.t 10) (.seq (.reg o5_3)
(.ret))
(.skip)))
(.seq (.reg o5_4)
(.seq (.seq (.reg o5_5)
(.cond (.t 20) (.seq (.dreg o5_6
[(1, 2)])
(.ret))
(.skip)))
(.seq (.reg o5_7)
(.seq (.dreg o5_8
[(1, 2)])
(.ret))))))⟩
def o8_1 : List Opn := [⟨some 1, none, .box 100001 (.t 0)⟩,
⟨some 2, none, .mov (.c (.bool false))⟩]
def o8_2 : List Opn := [⟨some 3, none, .faddr 0 (.t 1)⟩,
⟨some 4, none, .load 1 false (.t 3)⟩,
⟨some 5, none, .len (.t 4)⟩,
⟨some 6, none, .bin .leq (.t 5) (.c (.int .i64 40))⟩,
⟨some 7, none, .mov (.t 6)⟩,
⟨some 8, some (7, true), .faddr 1 (.t 1)⟩,
⟨some 9, some (7, true), .load 1 false (.t 8)⟩,
⟨some 10, some (7, true), .len (.t 9)⟩,
⟨some 11, some (7, true), .bin .leq (.t 10) (.c (.int .i64 40))⟩,
⟨some 12, none, .pick (.t 7) (.t 11) (.c (.bool false))⟩,
⟨some 13, none, .mov (.t 12)⟩,
⟨some 14, some (13, true), .faddr 4 (.t 1)⟩,
⟨some 15, some (13, true), .load 1 false (.t 14)⟩,
⟨some 16, some (13, true), .len (.t 15)⟩,
⟨some 17, some (13, true), .bin .leq (.t 16) (.c (.int .i64 40))⟩,
⟨some 18, none, .pick (.t 13) (.t 17) (.c (.bool false))⟩,
⟨some 19, none, .mov (.t 18)⟩,
⟨some 20, some (19, true), .faddr 3 (.t 1)⟩,
⟨some 21, some (19, true), .load 1 false (.t 20)⟩,
⟨some 22, some (19, true), .len (.t 21)⟩,
⟨some 23, some (19, true), .bin .leq (.t 22) (.c (.int .i64 40))⟩,
⟨some 24, none, .pick (.t 19) (.t 23) (.c (.bool false))⟩,
⟨some 25, none, .mov (.t 24)⟩,
⟨some 26, some (25, true), .faddr 28 (.t 1)⟩,
⟨some 27, some (25, true), .load 1 false (.t 26)⟩,
⟨some 28, some (25, true), .len (.t 27)⟩,
⟨some 29, some (25, true), .bin .leq (.t 28) (.c (.int .i64 40))⟩,
⟨some 30, none, .pick (.t 25) (.t 29) (.c (.bool false))⟩,
⟨some 31, none, .mov (.t 30)⟩,
⟨some 32, some (31, true), .faddr 8 (.t 1)⟩,
⟨some 33, some (31, true), .faddr 9 (.t 32)⟩,
⟨some 34, some (31, true), .load 1 false (.t 33)⟩,
⟨some 35, some (31, true), .len (.t 34)⟩,
⟨some 36, some (31, true), .bin .leq (.t 35) (.c (.int .i64 2000))⟩,
⟨some 37, none, .pick (.t 31) (.t 36) (.c (.bool false))⟩,
⟨some 38, none, .mov (.t 37)⟩,
⟨some 39, some (38, true), .faddr 8 (.t 1)⟩,
⟨some 40, some (38, true), .faddr 15 (.t 39)⟩,
⟨some 41, some (38, true), .load 1 false (.t 40)⟩,
⟨some 42, some (38, true), .len (.t 41)⟩,
⟨some 43, some (38, true), .bin .leq (.t 42) (.c (.int .i64 100))⟩,
⟨some 44, none, .pick (.t 38) (.t 43) (.c (.bool false))⟩,
⟨some 45, none, .mov (.t 44)⟩,
⟨some 46, some (45, true), .faddr 8 (.t 1)⟩,
⟨some 47, some (45, true), .faddr 19 (.t 46)⟩,
⟨some 48, some (45, true), .load 1 false (.t 47)⟩,
⟨some 49, some (45, true), .len (.t 48)⟩,
⟨some 50, some (45, true), .bin .leq (.t 49) (.c (.int .i64 40))⟩,
⟨some 51, none, .pick (.t 45) (.t 50) (.c (.bool false))⟩,
⟨some 52, none, .mov (.t 51)⟩,
⟨some 53, some (52, true), .faddr 1 (.t 1)⟩,
⟨some 54, some (52, true), .load 1 false (.t 53)⟩,
⟨some 55, some (52, true), .call 26 [(.shut, (.t 54))] [] 110055000⟩,
⟨some 56, none, .pick (.t 52) (.t 55) (.c (.bool false))⟩,
⟨some 2, none, .mov (.t 56)⟩]
def c8 : IFn := ⟨1, [.t 2], [], [],
.seq (.reg o8_1)
(.seq (.reg o8_2)
(.ret))⟩
def ob9_1_1 : List Opn := [⟨some 25, none, .bin .lss (.t 24) (.t 23)⟩]
def ob9_1_2 : List Opn := [⟨some 26, none, .iaddr 3 (.t 22) (.t 24)⟩,
⟨some 27, none, .load 3 true (.t 26)⟩,
⟨some 5, none, .alloc 100005 [.int .i64 0, .nul, .bool false]⟩,
⟨none, none, .store 3 (.t 5) (.t 27)⟩]
def ob9_1_3 : List Opn := [⟨some 28, none, .faddr 1 (.t 3)⟩,
⟨some 29, none, .load 1 false (.t 28)⟩,
⟨some 30, none, .load 3 true (.t 5)⟩,
⟨some 31, none, .bslice 100031 3 [(.t 30)]⟩,
⟨some 32, none, .app 100032 3 40 (.t 29) (.t 31)⟩,
⟨some 33, none, .faddr 1 (.t 3)⟩,
⟨none, none, .store 1 (.t 33) (.t 32)⟩]
def ob9_1_4 : List Opn := [⟨some 34, none, .bin .add (.t 24) (.c (.int .i64 1))⟩,
⟨some 24, none, .mov (.t 34)⟩]
def b9_1 : IC := (.seq (.gh (.keep [1, 2, 3, 22, 23, 24] [100001, 100002, 100003, 400301]))
(.seq (.reg ob9_1_1)
(.seq (.cond (.t 25) (.skip)
(.exit 0))
(.seq (.block 1 (.seq (.reg ob9_1_2)
(.reg ob9_1_3)))
(.reg ob9_1_4)))))
def ob9_2_1 : List Opn := [⟨some 39, none, .bin .lss (.t 38) (.t 37)⟩]
def ob9_2_2 : List Opn := [⟨some 40, none, .iaddr 7 (.t 36) (.t 38)⟩,
⟨some 41, none, .load 7 true (.t 40)⟩,
⟨some 7, none, .alloc 100007 [.int .i64 0, .int .i64 0, .int .i64 0, .int .i64 0, .int .i64 0, .int .i64 0, .int .i64 0]⟩,
⟨none, none, .store 7 (.t 7) (.t 41)⟩]
def ob9_2_3 : List Opn := [⟨some 42, none, .faddr 28 (.t 3)⟩,
⟨some 43, none, .load 1 false (.t 42)⟩,
⟨some 44, none, .load 7 true (.t 7)⟩,
⟨some 45, none, .bslice 100045 7 [(.t 44)]⟩,
⟨some 46, none, .app 100046 7 56 (.t 43) (.t 45)⟩,
⟨some 47, none, .faddr 28 (.t 3)⟩,
⟨none, none, .store 1 (.t 47) (.t 46)⟩]
def ob9_2_4 : List Opn := [⟨some 48, none, .bin .add (.t 38) (.c (.int .i64 1))⟩,
⟨some 38, none, .mov (.t 48)⟩]
def b9_2 : IC := (.seq (.gh (.keep [2, 3, 36, 37, 38] [100001, 100002, 100003, 100005, 100031, 100032, 400301, 400328]))
(.seq (.reg ob9_2_1)
(.seq (.cond (.t 39) (.skip)
(.exit 2))
(.seq (.block 3 (.seq (.reg ob9_2_2)
(.reg ob9_2_3)))
(.reg ob9_2_4)))))
def o9_1 : List Opn := [⟨some 1, none, .box 100001 (.t 0)⟩,
⟨some 2, none, .alloc 100002 [.nul, .nul, .int .i64 0, .nul, .nul, .int .i64 0, .int .i64 0, .int .i64 0, .int .i64 0, .int .i64 0, .int .i64 0, .int .i64 0, .int .i64 0, .int .i64 0, .int .i64 0, .int .i64 0, .str [], .nul, .int .i64 0, .int .i64 0, .int .i64 0, .str [], .str [], .nul, .int .i64 0, .int .i64 0, .int .i64 0, .nul, .nul]⟩]
def o9_2 : List Opn := [⟨some 8, none, .faddr 0 (.t 1)⟩,
⟨some 9, none, .load 1 false (.t 8)⟩,
⟨some 10, none, .faddr 2 (.t 1)⟩,
⟨some 11, none, .load 1 false (.t 10)⟩,
⟨some 12, none, .faddr 3 (.t 1)⟩,
⟨some 13, none, .load 1 false (.t 12)⟩,
⟨some 14, none, .faddr 4 (.t 1)⟩,
⟨some 15, none, .load 1 false (.t 14)⟩,
⟨some 16, none, .faddr 5 (.t 1)⟩,
⟨some 17, none, .load 3 true (.t 16)⟩,
⟨some 18, none, .faddr 8 (.t 1)⟩,
⟨some 19, none, .load 20 true (.t 18)⟩,
⟨some 20, none, .build [.nul, .nul, .int .i64 0, .nul, .nul, .int .i64 0, .int .i64 0, .int .i64 0, .int .i64 0, .int .i64 0, .int .i64 0, .int .i64 0, .int .i64 0, .int .i64 0, .int .i64 0, .int .i64 0, .str [], .nul, .int .i64 0, .int .i64 0, .int .i64 0, .str [], .str [], .nul, .int .i64 0, .int .i64 0, .int .i64 0, .nul, .nul] [(0, 1, (.t 9)), (2, 1, (.t 11)), (3, 1, (.t 13)), (4, 1, (.t 15)), (5, 3, (.t 17)), (8, 20, (.t 19))]⟩,
⟨some 3, none, .alloc 100003 [.nul, .nul, .int .i64 0, .nul, .nul, .int .i64 0, .int .i64 0, .int .i64 0, .int .i64 0, .int .i64 0, .int .i64 0, .int .i64 0, .int .i64 0, .int .i64 0, .int .i64 0, .int .i64 0, .str [], .nul, .int .i64 0, .int .i64 0, .int .i64 0, .str [], .str [], .nul, .int .i64 0, .int .i64 0, .int .i64 0, .nul, .nul]⟩,
⟨none, none, .store 29 (.t 3) (.t 20)⟩]
def o9_3 : List Opn := [⟨some 21, none, .faddr 1 (.t 1)⟩,
⟨some 22, none, .load 1 false (.t 21)⟩,
⟨some 23, none, .len (.t 22)⟩,
⟨some 24, none, .mov (.c (.int .i64 0))⟩]
def o9_4 : List Opn := [⟨some 35, none, .faddr 28 (.t 1)⟩,
⟨some 36, none, .load 1 false (.t 35)⟩,
⟨some 37, none, .len (.t 36)⟩,
⟨some 38, none, .mov (.c (.int .i64 0))⟩]
def o9_5 : List Opn := [⟨some 49, none, .load 29 true (.t 3)⟩,
⟨none, none, .store 29 (.t 2) (.t 49)⟩]
def c9 : IFn := ⟨1, [.m 2 29 true], [], [],
.seq (.reg o9_1)
(.seq (.reg o9_2)
(.seq (.seq (.reg o9_3)
(.block 0 (.seq (.gh (.roomC 100003 1 400301 3))
(.loop b9_1))))
(.seq (.seq (.reg o9_4)
(.block 2 (.seq (.gh (.roomC 100003 28 400328 7))
(.loop b9_2))))
(.seq (.reg o9_5)
(.ret)))))⟩
def o10_1 : List Opn := [⟨some 0, none, .mov (.c (.bool false))⟩]
def o10_2 : List Opn := [⟨some 7, none, .call 11 [] [] 110007000⟩,
⟨some 8, none, .build [.int .i64 0, .int .i64 0, .int .i64 0, .int .i64 0, .str [], .nul] [(0, 1, (.c (.int .i64 2))), (1, 1, (.c (.int .i64 1))), (4, 1, (.c (.str [109])))]⟩,
⟨some 9, none, .call 14 [(.shut, (.t 7)), (.shut, (.t 8))] [] 110009000⟩,
⟨some 6, none, .mov (.t 9)⟩,
⟨some 10, none, .ext (.t 6) 0⟩,
⟨some 11, none, .ext (.t 6) 1⟩,
⟨some 1, none, .alloc 100001 [.nul, .nul, .int .i64 0, .nul, .nul, .int .i64 0, .int .i64 0, .int .i64 0, .int .i64 0, .int .i64 0, .int .i64 0, .int .i64 0, .int .i64 0, .int .i64 0, .int .i64 0, .int .i64 0, .str [], .nul, .int .i64 0, .int .i64 0, .int .i64 0, .str [], .str [], .nul, .int .i64 0, .int .i64 0, .int .i64 0, .nul, .nul]⟩,
⟨none, none, .store 29 (.t 1) (.t 10)⟩,
⟨some 2, none, .mov (.t 11)⟩]
def o10_3 : List Opn := [⟨some 13, none, .load 29 true (.t 1)⟩,
⟨some 14, none, .call 17 [(.shut, (.t 13))] [] 210014000⟩,
⟨some 12, none, .mov (.t 14)⟩,
⟨some 15, none, .ext (.t 12) 0⟩,
⟨some 16, none, .ext (.t 12) 1⟩,
⟨none, none, .store 29 (.t 1) (.t 15)⟩,
⟨some 3, none, .mov (.t 16)⟩]
def o10_4 : List Opn := [⟨some 18, none, .load 29 true (.t 1)⟩,
⟨some 19, none, .build [.int .i64 0, .int .i64 0, .int .i64 0, .int .i64 0, .int .i64 0, .int .i64 0, .int .i64 0, .int .i64 0, .int .i64 0, .int .i64 0, .int .i64 0, .int .i64 0, .str [], .int .i64 0, .int .i64 0, .int .i64 0, .str [], .str [], .bool false, .str [], .int .i64 0, .int .i64 0, .int .i64 0, .str [], .int .i64 0, .int .i64 0, .int .i64 0, .int .i64 0, .int .i64 0, .bool false, .str [], .nul, .str [], .bool false, .nul, .nul] [(0, 1, (.c (.int .i64 27))), (1, 1, (.c (.int .i64 1))), (3, 1, (.c (.int .i64 1))), (5, 1, (.c (.int .i64 2)))]⟩,
⟨some 20, none, .call 21 [(.shut, (.t 18)), (.shut, (.t 19))] [] 310020000⟩,
⟨some 17, none, .mov (.t 20)⟩,
⟨some 21, none, .ext (.t 17) 0⟩,
⟨some 22, none, .ext (.t 17) 1⟩,
⟨some 4, none, .alloc 100004 [.nul, .nul, .int .i64 0, .nul, .nul, .int .i64 0, .int .i64 0, .int .i64 0, .int .i64 0, .int .i64 0, .int .i64 0, .int .i64 0, .int .i64 0, .int .i64 0, .int .i64 0, .int .i64 0, .str [], .nul, .int .i64 0, .int .i64 0, .int .i64 0, .str [], .str [], .nul, .int .i64 0, .int .i64 0, .int .i64 0, .nul, .nul]⟩,
⟨none, none, .store 29 (.t 4) (.t 21)⟩,
⟨some 5, none, .mov (.t 22)⟩]
def o10_5 : List Opn := [⟨some 23, none, .mov (.t 2)⟩,
⟨some 24, none, .eq false false [.i] (.t 23) (.c (.int .i64 0))⟩,
⟨some 25, none, .mov (.t 24)⟩,
⟨some 26, some (25, true), .mov (.t 3)⟩,
⟨some 27, some (25, true), .len (.t 26)⟩,
⟨some 28, some (25, true), .eq false false [.i] (.t 27) (.c (.int .i64 1))⟩,
⟨some 29, none, .pick (.t 25) (.t 28) (.c (.bool false))⟩,
⟨some 30, none, .mov (.t 29)⟩,
⟨some 31, some (30, true), .mov (.t 3)⟩,
⟨some 32, some (30, true), .iaddr 36 (.t 31) (.c (.int .i64 0))⟩,
⟨some 33, some (30, true), .faddr 0 (.t 32)⟩,
⟨some 34, some (30, true), .load 1 false (.t 33)⟩,
⟨some 35, some (30, true), .eq false false [.i] (.t 34) (.c (.int .i64 26))⟩,
⟨some 36, none, .pick (.t 30) (.t 35) (.c (.bool false))⟩,
⟨some 37, none, .mov (.t 36)⟩,
⟨some 38, some (37, true), .mov (.t 3)⟩,
⟨some 39, some (37, true), .iaddr 36 (.t 38) (.c (.int .i64 0))⟩,
⟨some 40, some (37, true), .faddr 2 (.t 39)⟩,
⟨some 41, some (37, true), .load 1 false (.t 40)⟩,
⟨some 42, some (37, true), .eq false false [.i] (.t 41) (.c (.int .i64 1))⟩,
⟨some 43, none, .pick (.t 37) (.t 42) (.c (.bool false))⟩,
⟨some 44, none, .mov (.t 43)⟩,
⟨some 45, some (44, true), .faddr 0 (.t 4)⟩,
⟨some 46, some (44, true), .load 1 false (.t 45)⟩,
⟨some 47, some (44, true), .len (.t 46)⟩,
⟨some 48, some (44, true), .eq false false [.i] (.t 47) (.c (.int .i64 2))⟩,
⟨some 49, none, .pick (.t 44) (.t 48) (.c (.bool false))⟩,
⟨some 50, none, .mov (.t 49)⟩,
⟨some 51, some (50, true), .load 29 true (.t 4)⟩,
⟨some 52, some (50, true), .call 12 [(.shut, (.t 51))] [] 410052000⟩,
⟨some 53, none, .pick (.t 50) (.t 52) (.c (.bool false))⟩,
⟨some 0, none, .mov (.t 53)⟩]
def c10 : IFn := ⟨0, [.t 0], [], [],
.seq (.reg o10_1)
(.seq (.reg o10_2)
(.seq (.reg o10_3)
(.seq (.reg o10_4)
(.seq (.reg o10_5)
(.ret)))))⟩
def ob11_1_1 : List Opn := [⟨some 6, none, .mov (.t 2)⟩,
⟨some 7, none, .bin .leq (.t 6) (.c (.int .i64 3))⟩]
def ob11_1_2 : List Opn := [⟨some 10, none, .faddr 1 (.t 1)⟩,
⟨some 11, none, .load 1 false (.t 10)⟩,
⟨some 12, none, .mov (.t 2)⟩,
⟨some 13, none, .call 28 [(.shut, (.t 12))] [] 510013000⟩,
⟨some 14, none, .build [.int .i64 0, .nul, .bool false] [(0, 1, (.c (.int .i64 1))), (1, 1, (.t 13)), (2, 1, (.c (.bool true)))]⟩,
⟨some 15, none, .bslice 100015 3 [(.t 14)]⟩,
⟨some 16, none, .app 100016 3 40 (.t 11) (.t 15)⟩,
⟨some 17, none, .faddr 1 (.t 1)⟩,
⟨none, none, .store 1 (.t 17) (.t 16)⟩]
def ob11_1_3 : List Opn := [⟨some 8, none, .mov (.t 2)⟩,
⟨some 9, none, .bin .add (.t 8) (.c (.int .i64 1))⟩,
⟨some 2, none, .mov (.t 9)⟩]
def b11_1 : IC := (.seq (.gh (.keep [0, 1, 2] [100000, 100001, 100004, 400101]))
(.seq (.seq (.reg ob11_1_1)
(.cond (.t 7) (.skip)
(.exit 0)))
(.seq (.block 1 (.dreg ob11_1_2
[(0, 3), (1, 3), (0, 5), (1, 5)]))
(.reg ob11_1_3))))
def o11_1 : List Opn := [⟨some 0, none, .alloc 100000 [.nul, .nul, .int .i64 0, .nul, .nul, .int .i64 0, .int .i64 0, .int .i64 0, .int .i64 0, .int .i64 0, .int .i64 0, .int .i64 0, .int .i64 0, .int .i64 0, .int .i64 0, .int .i64 0, .str [], .nul, .int .i64 0, .int .i64 0, .int .i64 0, .str [], .str [], .nul, .int .i64 0, .int .i64 0, .int .i64 0, .nul, .nul]⟩]
def o11_2 : List Opn := [⟨some 3, none, .call 27 [] [] 110003000⟩,
⟨some 4, none, .mksl 100004 24 [.int .i64 0, .int .i64 0, .int .i64 0] (.c (.int .i64 3)) (.c (.int .i64 3))⟩,
⟨some 5, none, .build [.nul, .nul, .int .i64 0, .nul, .nul, .int .i64 0, .int .i64 0, .int .i64 0, .int .i64 0, .int .i64 0, .int .i64 0, .int .i64 0, .int .i64 0, .int .i64 0, .int .i64 0, .int .i64 0, .str [], .nul, .int .i64 0, .int .i64 0, .int .i64 0, .str [], .str [], .nul, .int .i64 0, .int .i64 0, .int .i64 0, .nul, .nul] [(0, 1, (.t 3)), (2, 1, (.c (.int .i64 2))), (4, 1, (.t 4))]⟩,
⟨some 1, none, .alloc 100001 [.nul, .nul, .int .i64 0, .nul, .nul, .int .i64 0, .int .i64 0, .int .i64 0, .int .i64 0, .int .i64 0, .int .i64 0, .int .i64 0, .int .i64 0, .int .i64 0, .int .i64 0, .int .i64 0, .str [], .nul, .int .i64 0, .int .i64 0, .int .i64 0, .str [], .str [], .nul, .int .i64 0, .int .i64 0, .int .i64 0, .nul, .nul]⟩,
⟨none, none, .store 29 (.t 1) (.t 5)⟩]
def o11_3 : List Opn := [⟨some 2, none, .mov (.c (.int .i64 1))⟩]
def o11_4 : List Opn := [⟨some 18, none, .load 29 true (.t 1)⟩,
⟨none, none, .store 29 (.t 0) (.t 18)⟩]
def c11 : IFn := ⟨0, [.m 0 29 true], [], [],
.seq (.reg o11_1)
(.seq (.dreg o11_2
[(0, 1), (0, 3), (1, 3)])
(.seq (.seq (.reg o11_3)
(.block 0 (.seq (.gh (.roomC 100001 1 400101 3))
(.loop b11_1))))
(.seq (.reg o11_4)
(.ret))))⟩
def ob12_1_1 : List Opn := [⟨some 58, none, .bin .lss (.t 57) (.c (.int .i64 3))⟩]
def ob12_1_2 : List Opn := [⟨some 59, none, .mov (.t 57)⟩,
⟨some 3, none, .mov (.t 59)⟩]
def ob12_1_3 : List Opn := [⟨some 60, none, .faddr 1 (.t 1)⟩,
⟨some 61, none, .load 1 false (.t 60)⟩,
⟨some 62, none, .mov (.t 3)⟩,
⟨some 63, none, .iaddr 3 (.t 61) (.t 62)⟩,
⟨some 64, none, .faddr 0 (.t 63)⟩,
⟨some 65, none, .load 1 false (.t 64)⟩,
⟨some 66, none, .bslice 100066 1 [(.t 65)]⟩,
⟨some 67, none, .call 33 [(.shut, (.c (.int .i64 1))), (.shut, (.t 66))] [] 610067000⟩,
⟨some 68, none, .un .not (.t 67)⟩,
⟨some 69, none, .mov (.t 68)⟩,
⟨some 70, some (69, false), .faddr 1 (.t 1)⟩,
⟨some 71, some (69, false), .load 1 false (.t 70)⟩,
⟨some 72, some (69, false), .mov (.t 3)⟩,
⟨some 73, some (69, false), .iaddr 3 (.t 71) (.t 72)⟩,
⟨some 74, some (69, false), .faddr 1 (.t 73)⟩,
⟨some 75, some (69, false), .load 1 false (.t 74)⟩,
⟨some 76, some (69, false), .call 34 [(.shut, (.t 75))] [] 610076000⟩,
⟨some 77, some (69, false), .un .not (.t 76)⟩,
⟨some 78, none, .pick (.t 69) (.c (.bool true)) (.t 77)⟩,
⟨some 79, none, .mov (.t 78)⟩,
⟨some 80, some (79, false), .faddr 4 (.t 1)⟩,
⟨some 81, some (79, false), .load 1 false (.t 80)⟩,
⟨some 82, some (79, false), .mov (.t 3)⟩,
⟨some 83, some (79, false), .iaddr 3 (.t 81) (.t 82)⟩,
⟨some 84, some (79, false), .load 3 true (.t 83)⟩,
⟨some 85, some (79, false), .call 31 [(.shut, (.t 84))] [] 610085000⟩,
⟨some 86, some (79, false), .un .not (.t 85)⟩,
⟨some 87, none, .pick (.t 79) (.c (.bool true)) (.t 86)⟩]
def ob12_1_4 : List Opn := [⟨some 2, none, .mov (.c (.bool false))⟩]
def ob12_1_5 : List Opn := [⟨some 88, none, .bin .add (.t 57) (.c (.int .i64 1))⟩,
⟨some 57, none, .mov (.t 88)⟩]
def b12_1 : IC := (.seq (.gh (.keep [1, 57] [100001]))
(.seq (.reg ob12_1_1)
(.seq (.cond (.t 58) (.skip)
(.exit 0))
(.seq (.block 1 (.seq (.reg ob12_1_2)
(.seq (.reg ob12_1_3)
(.cond (.t 87) (.seq (.reg ob12_1_4)
(.ret))
(.skip)))))
(.reg ob12_1_5)))))
def ob12_2_1 : List Opn := [⟨some 93, none, .bin .lss (.t 92) (.t 91)⟩]
def ob12_2_2 : List Opn := [⟨some 94, none, .iaddr 7 (.t 90) (.t 92)⟩,
⟨some 95, none, .load 7 true (.t 94)⟩,
⟨some 6, none, .alloc 100006 [.int .i64 0, .int .i64 0, .int .i64 0, .int .i64 0, .int .i64 0, .int .i64 0, .int .i64 0]⟩,
⟨none, none, .store 7 (.t 6) (.t 95)⟩]
def ob12_2_3 : List Opn := [⟨some 96, none, .faddr 0 (.t 6)⟩,
⟨some 97, none, .load 1 false (.t 96)⟩,
⟨some 98, none, .mov (.t 4)⟩,
⟨some 99, none, .bin .leq (.t 97) (.t 98)⟩,
⟨some 100, none, .mov (.t 99)⟩,
⟨some 101, some (100, false), .faddr 0 (.t 6)⟩,
⟨some 102, some (100, false), .load 1 false (.t 101)⟩,
⟨some 103, some (100, false), .bin .gtr (.t 102) (.c (.int .i64 8))⟩,
⟨some 104, none, .pick (.t 100) (.c (.bool true)) (.t 103)⟩,
⟨some 105, none, .mov (.t 104)⟩,
⟨some 106, some (105, false), .faddr 1 (.t 6)⟩,
⟨some 107, some (105, false), .load 1 false (.t 106)⟩,
⟨some 108, some (105, false), .faddr 2 (.t 6)⟩,
⟨some 109, some (105, false), .load 1 false (.t 108)⟩,
⟨some 110, some (105, false), .bslice 100110 1 [(.t 107), (.t 109)]⟩,
⟨some 111, some (105, false), .call 33 [(.shut, (.c (.int .i64 0))), (.shut, (.t 110))] [] 1310111000⟩,
⟨some 112, some (105, false), .un .not (.t 111)⟩,
⟨some 113, none, .pick (.t 105) (.c (.bool true)) (.t 112)⟩,
⟨some 114, none, .mov (.t 113)⟩,
⟨some 115, some (114, false), .faddr 3 (.t 6)⟩,
⟨some 116, some (114, false), .load 3 true (.t 115)⟩,
⟨some 117, some (114, false), .call 31 [(.shut, (.t 116))] [] 1310117000⟩,
⟨some 118, some (114, false), .un .not (.t 117)⟩,
⟨some 119, none, .pick (.t 114) (.c (.bool true)) (.t 118)⟩,
⟨some 120, none, .mov (.t 119)⟩,
⟨some 121, some (120, false), .faddr 6 (.t 6)⟩,
⟨some 122, some (120, false), .load 1 false (.t 121)⟩,
⟨some 123, some (120, false), .bin .lss (.t 122) (.c (.int .i64 0))⟩,
⟨some 124, none, .pick (.t 120) (.c (.bool true)) (.t 123)⟩,
⟨some 125, none, .mov (.t 124)⟩,
⟨some 126, some (125, false), .faddr 6 (.t 6)⟩,
⟨some 127, some (125, false), .load 1 false (.t 126)⟩,
⟨some 128, some (125, false), .bin .gtr (.t 127) (.c (.int .i64 16))⟩,
⟨some 129, none, .pick (.t 125) (.c (.bool true)) (.t 128)⟩]
def ob12_2_4 : List Opn := [⟨some 2, none, .mov (.c (.bool false))⟩]
def ob12_2_5 : List Opn := [⟨some 130, none, .faddr 0 (.t 6)⟩,
⟨some 131, none, .load 1 false (.t 130)⟩,
⟨some 4, none, .mov (.t 131)⟩]
def ob12_2_6 : List Opn := [⟨some 132, none, .bin .add (.t 92) (.c (.int .i64 1))⟩,
⟨some 92, none, .mov (.t 132)⟩]
def b12_2 : IC := (.seq (.gh (.keep [4, 90, 91, 92] [100001, 100066]))
(.seq (.reg ob12_2_1)
(.seq (.cond (.t 93) (.skip)
(.exit 2))
(.seq (.block 3 (.seq (.reg ob12_2_2)
(.seq (.seq (.reg ob12_2_3)
(.cond (.t 129) (.seq (.reg ob12_2_4)
(.ret))
(.skip)))
(.reg ob12_2_5))))
(.reg ob12_2_6)))))
def ok12_1_1 : List Opn := [⟨some 2, none, .mov (.c (.bool true))⟩]
def k12_1 : IC := (.seq (.reg ok12_1_1)
(.ret))
def ok12_2_1 : List Opn := [⟨some 4, none, .mov (.c (.int .i64 0))⟩]
def ok12_2_2 : List Opn := [⟨some 89, none, .faddr 28 (.t 1)⟩,
⟨some 90, none, .load 1 false (.t 89)⟩,
⟨some 91, none, .len (.t 90)⟩,
⟨some 92, none, .mov (.c (.int .i64 0))⟩]
def k12_2 : IC := (.seq (.reg ok12_2_1)
(.seq (.seq (.reg ok12_2_2)
(.block 2 (.loop b12_2)))
k12_1))
def o12_1 : List Opn := [⟨some 1, none, .box 100001 (.t 0)⟩,
⟨some 2, none, .mov (.c (.bool false))⟩]
def o12_2 : List Opn := [⟨some 7, none, .faddr 0 (.t 1)⟩,
⟨some 8, none, .load 1 false (.t 7)⟩,
⟨some 9, none, .call 29 [(.shut, (.t 8))] [] 110009000⟩,
⟨some 10, none, .un .not (.t 9)⟩,
⟨some 11, none, .mov (.t 10)⟩,
⟨some 12, some (11, false), .faddr 3 (.t 1)⟩,
⟨some 13, some (11, false), .load 1 false (.t 12)⟩,
⟨some 14, some (11, false), .call 30 [(.shut, (.t 13))] [] 110014000⟩,
⟨some 15, some (11, false), .un .not (.t 14)⟩,
⟨some 16, none, .pick (.t 11) (.c (.bool true)) (.t 15)⟩,
⟨some 17, none, .mov (.t 16)⟩,
⟨some 18, some (17, false), .faddr 1 (.t 1)⟩,
⟨some 19, some (17, false), .load 1 false (.t 18)⟩,
⟨some 20, some (17, false), .len (.t 19)⟩,
⟨some 21, some (17, false), .eq true false [.i] (.t 20) (.c (.int .i64 3))⟩,
⟨some 22, none, .pick (.t 17) (.c (.bool true)) (.t 21)⟩,
⟨some 23, none, .mov (.t 22)⟩,
⟨some 24, some (23, false), .faddr 4 (.t 1)⟩,
⟨some 25, some (23, false), .load 1 false (.t 24)⟩,
⟨some 26, some (23, false), .len (.t 25)⟩,
⟨some 27, some (23, false), .eq true false [.i] (.t 26) (.c (.int .i64 3))⟩,
⟨some 28, none, .pick (.t 23) (.c (.bool true)) (.t 27)⟩,
⟨some 29, none, .mov (.t 28)⟩,
⟨some 30, some (29, false), .faddr 2 (.t 1)⟩,
⟨some 31, some (29, false), .load 1 false (.t 30)⟩,
⟨some 32, some (29, false), .bin .lss (.t 31) (.c (.int .i64 2))⟩,
⟨some 33, none, .pick (.t 29) (.c (.bool true)) (.t 32)⟩,
⟨some 34, none, .mov (.t 33)⟩,
⟨some 35, some (34, false), .faddr 2 (.t 1)⟩,
⟨some 36, some (34, false), .load 1 false (.t 35)⟩,
⟨some 37, some (34, false), .bin .gtr (.t 36) (.c (.int .i64 1099511627776))⟩,
⟨some 38, none, .pick (.t 34) (.c (.bool true)) (.t 37)⟩,
⟨some 39, none, .mov (.t 38)⟩,
⟨some 40, some (39, false), .faddr 5 (.t 1)⟩,
⟨some 41, some (39, false), .load 3 true (.t 40)⟩,
⟨some 42, some (39, false), .call 31 [(.shut, (.t 41))] [] 110042000⟩,
⟨some 43, some (39, false), .un .not (.t 42)⟩,
⟨some 44, none, .pick (.t 39) (.c (.bool true)) (.t 43)⟩,
⟨some 45, none, .mov (.t 44)⟩,
⟨some 46, some (45, false), .faddr 8 (.t 1)⟩,
⟨some 47, some (45, false), .load 20 true (.t 46)⟩,
⟨some 48, some (45, false), .call 32 [(.shut, (.t 47))] [] 110048000⟩,
⟨some 49, some (45, false), .un .not (.t 48)⟩,
⟨some 50, none, .pick (.t 45) (.c (.bool true)) (.t 49)⟩,
⟨some 51, none, .mov (.t 50)⟩,
⟨some 52, some (51, false), .faddr 28 (.t 1)⟩,
⟨some 53, some (51, false), .load 1 false (.t 52)⟩,
⟨some 54, some (51, false), .len (.t 53)⟩,
⟨some 55, some (51, false), .bin .gtr (.t 54) (.c (.int .i64 8))⟩,
⟨some 56, none, .pick (.t 51) (.c (.bool true)) (.t 55)⟩]
def o12_3 : List Opn := [⟨some 2, none, .mov (.c (.bool false))⟩]
def o12_4 : List Opn := [⟨some 57, none, .mov (.c (.int .i64 0))⟩]
def c12 : IFn := ⟨1, [.t 2], [], [],
.seq (.reg o12_1)
(.seq (.seq (.reg o12_2)
(.cond (.t 56) (.seq (.reg o12_3)
(.ret))
(.skip)))
(.seq (.seq (.reg o12_4)
(.block 0 (.loop b12_1)))
k12_2))⟩
def ob13_1_1 : List Opn := [⟨some 57, none, .mov (.t 3)⟩,
⟨some 58, none, .bin .lss (.t 57) (.c (.int .i64 3))⟩]
def ob13_1_2 : List Opn := [⟨some 61, none, .faddr 1 (.t 1)⟩,
⟨some 62, none, .load 1 false (.t 61)⟩,
⟨some 63, none, .mov (.t 3)⟩,
⟨some 64, none, .iaddr 3 (.t 62) (.t 63)⟩,
⟨some 65, none, .faddr 0 (.t 64)⟩,
⟨some 66, none, .load 1 false (.t 65)⟩,
⟨some 67, none, .bin .lss (.t 66) (.c (.int .i64 1))⟩,
⟨some 68, none, .mov (.t 67)⟩,
⟨some 69, some (68, false), .faddr 1 (.t 1)⟩,
⟨some 70, some (68, false), .load 1 false (.t 69)⟩,
⟨some 71, some (68, false), .mov (.t 3)⟩,
⟨some 72, some (68, false), .iaddr 3 (.t 70) (.t 71)⟩,
⟨some 73, some (68, false), .faddr 0 (.t 72)⟩,
⟨some 74, some (68, false), .load 1 false (.t 73)⟩,
⟨some 75, some (68, false), .call 37 [(.shut, (.t 74))] [] 610075000⟩,
⟨some 76, some (68, false), .un .not (.t 75)⟩,
⟨some 77, none, .pick (.t 68) (.c (.bool true)) (.t 76)⟩,
⟨some 78, none, .mov (.t 77)⟩,
⟨some 79, some (78, false), .faddr 1 (.t 1)⟩,
⟨some 80, some (78, false), .load 1 false (.t 79)⟩,
⟨some 81, some (78, false), .mov (.t 3)⟩,
⟨some 82, some (78, false), .iaddr 3 (.t 80) (.t 81)⟩,
⟨some 83, some (78, false), .faddr 1 (.t 82)⟩,
⟨some 84, some (78, false), .load 1 false (.t 83)⟩,
⟨some 85, some (78, false), .call 40 [(.shut, (.t 84))] [] 610085000⟩,
⟨some 86, some (78, false), .un .not (.t 85)⟩,
⟨some 87, none, .pick (.t 78) (.c (.bool true)) (.t 86)⟩,
⟨some 88, none, .mov (.t 87)⟩,
⟨some 89, some (88, false), .faddr 4 (.t 1)⟩,
⟨some 90, some (88, false), .load 1 false (.t 89)⟩,
⟨some 91, some (88, false), .mov (.t 3)⟩,
⟨some 92, some (88, false), .iaddr 3 (.t 90) (.t 91)⟩,
⟨some 93, some (88, false), .load 3 true (.t 92)⟩,
⟨some 94, some (88, false), .call 38 [(.shut, (.t 93))] [] 610094000⟩,
⟨some 95, some (88, false), .un .not (.t 94)⟩,
⟨some 96, none, .pick (.t 88) (.c (.bool true)) (.t 95)⟩]
def ob13_1_3 : List Opn := [⟨some 2, none, .mov (.c (.bool false))⟩]
def ob13_1_4 : List Opn := [⟨some 59, none, .mov (.t 3)⟩,
⟨some 60, none, .bin .add (.t 59) (.c (.int .i64 1))⟩,
⟨some 3, none, .mov (.t 60)⟩]
def b13_1 : IC := (.seq (.gh (.keep [1, 3] [100001]))
(.seq (.seq (.reg ob13_1_1)
(.cond (.t 58) (.skip)
(.exit 0)))
(.seq (.block 1 (.seq (.reg ob13_1_2)
(.cond (.t 96) (.seq (.reg ob13_1_3)
(.ret))
(.skip))))
(.reg ob13_1_4))))
def ob13_2_1 : List Opn := [⟨some 97, none, .mov (.t 4)⟩,
⟨some 98, none, .faddr 28 (.t 1)⟩,
⟨some 99, none, .load 1 false (.t 98)⟩,
⟨some 100, none, .len (.t 99)⟩,
⟨some 101, none, .bin .lss (.t 97) (.t 100)⟩]
def ob13_2_2 : List Opn := [⟨some 104, none, .faddr 28 (.t 1)⟩,
⟨some 105, none, .load 1 false (.t 104)⟩,
⟨some 106, none, .mov (.t 4)⟩,
⟨some 107, none, .iaddr 7 (.t 105) (.t 106)⟩,
⟨some 108, none, .load 7 true (.t 107)⟩,
⟨some 5, none, .alloc 100005 [.int .i64 0, .int .i64 0, .int .i64 0, .int .i64 0, .int .i64 0, .int .i64 0, .int .i64 0]⟩,
⟨none, none, .store 7 (.t 5) (.t 108)⟩]
def ob13_2_3 : List Opn := [⟨some 109, none, .faddr 0 (.t 5)⟩,
⟨some 110, none, .load 1 false (.t 109)⟩,
⟨some 111, none, .bin .lss (.t 110) (.c (.int .i64 1))⟩,
⟨some 112, none, .mov (.t 111)⟩,
⟨some 113, some (112, false), .faddr 0 (.t 5)⟩,
⟨some 114, some (112, false), .load 1 false (.t 113)⟩,
⟨some 115, some (112, false), .bin .gtr (.t 114) (.c (.int .i64 8))⟩,
⟨some 116, none, .pick (.t 112) (.c (.bool true)) (.t 115)⟩,
⟨some 117, none, .mov (.t 116)⟩,
⟨some 118, some (117, false), .mov (.t 4)⟩,
⟨some 119, some (117, false), .bin .gtr (.t 118) (.c (.int .i64 0))⟩,
⟨some 120, some (117, false), .mov (.t 119)⟩,
⟨some 121, some (120, true), .faddr 28 (.t 1)⟩,
⟨some 122, some (120, true), .load 1 false (.t 121)⟩,
⟨some 123, some (120, true), .mov (.t 4)⟩,
⟨some 124, some (120, true), .bin .sub (.t 123) (.c (.int .i64 1))⟩,
⟨some 125, some (120, true), .iaddr 7 (.t 122) (.t 124)⟩,
⟨some 126, some (120, true), .faddr 0 (.t 125)⟩,
⟨some 127, some (120, true), .load 1 false (.t 126)⟩,
⟨some 128, some (120, true), .faddr 0 (.t 5)⟩,
⟨some 129, some (120, true), .load 1 false (.t 128)⟩,
⟨some 130, some (120, true), .bin .geq (.t 127) (.t 129)⟩,
⟨some 131, some (117, false), .pick (.t 120) (.t 130) (.c (.bool false))⟩,
⟨some 132, none, .pick (.t 117) (.c (.bool true)) (.t 131)⟩,
⟨some 133, none, .mov (.t 132)⟩,
⟨some 134, some (133, false), .faddr 1 (.t 5)⟩,
⟨some 135, some (133, false), .load 1 false (.t 134)⟩,
⟨some 136, some (133, false), .call 37 [(.shut, (.t 135))] [] 1210136000⟩,
⟨some 137, some (133, false), .un .not (.t 136)⟩,
⟨some 138, none, .pick (.t 133) (.c (.bool true)) (.t 137)⟩,
⟨some 139, none, .mov (.t 138)⟩,
⟨some 140, some (139, false), .faddr 2 (.t 5)⟩,
⟨some 141, some (139, false), .load 1 false (.t 140)⟩,
⟨some 142, some (139, false), .call 37 [(.shut, (.t 141))] [] 1210142000⟩,
⟨some 143, some (139, false), .un .not (.t 142)⟩,
⟨some 144, none, .pick (.t 139) (.c (.bool true)) (.t 143)⟩,
⟨some 145, none, .mov (.t 144)⟩,
⟨some 146, some (145, false), .faddr 3 (.t 5)⟩,
⟨some 147, some (145, false), .load 3 true (.t 146)⟩,
⟨some 148, some (145, false), .call 38 [(.shut, (.t 147))] [] 1210148000⟩,
⟨some 149, some (145, false), .un .not (.t 148)⟩,
⟨some 150, none, .pick (.t 145) (.c (.bool true)) (.t 149)⟩,
⟨some 151, none, .mov (.t 150)⟩,
⟨some 152, some (151, false), .faddr 6 (.t 5)⟩,
⟨some 153, some (151, false), .load 1 false (.t 152)⟩,
⟨some 154, some (151, false), .bin .lss (.t 153) (.c (.int .i64 0))⟩,
⟨some 155, none, .pick (.t 151) (.c (.bool true)) (.t 154)⟩,
⟨some 156, none, .mov (.t 155)⟩,
⟨some 157, some (156, false), .faddr 6 (.t 5)⟩,
⟨some 158, some (156, false), .load 1 false (.t 157)⟩,
⟨some 159, some (156, false), .bin .gtr (.t 158) (.c (.int .i64 16))⟩,
⟨some 160, none, .pick (.t 156) (.c (.bool true)) (.t 159)⟩]
def ob13_2_4 : List Opn := [⟨some 2, none, .mov (.c (.bool false))⟩]
def ob13_2_5 : List Opn := [⟨some 102, none, .mov (.t 4)⟩,
⟨some 103, none, .bin .add (.t 102) (.c (.int .i64 1))⟩,
⟨some 4, none, .mov (.t 103)⟩]
def b13_2 : IC := (.seq (.gh (.keep [1, 4] [100001]))
(.seq (.seq (.reg ob13_2_1)
(.cond (.t 101) (.skip)
(.exit 2)))
(.seq (.block 3 (.seq (.reg ob13_2_2)
(.seq (.dreg ob13_2_3
[])
(.cond (.t 160) (.seq (.reg ob13_2_4)
(.ret))
(.skip)))))
(.reg ob13_2_5))))
def ok13_1_1 : List Opn := [⟨some 2, none, .mov (.c (.bool true))⟩]
def k13_1 : IC := (.seq (.reg ok13_1_1)
(.ret))
def ok13_2_1 : List Opn := [⟨some 4, none, .mov (.c (.int .i64 0))⟩]
def k13_2 : IC := (.seq (.seq (.reg ok13_2_1)
(.block 2 (.loop b13_2)))
k13_1)
def o13_1 : List Opn := [⟨some 1, none, .box 100001 (.t 0)⟩,
⟨some 2, none, .mov (.c (.bool false))⟩]
def o13_2 : List Opn := [⟨some 6, none, .faddr 0 (.t 1)⟩,
⟨some 7, none, .load 1 false (.t 6)⟩,
⟨some 8, none, .call 35 [(.shut, (.t 7))] [] 110008000⟩,
⟨some 9, none, .un .not (.t 8)⟩,
⟨some 10, none, .mov (.t 9)⟩,
⟨some 11, some (10, false), .faddr 3 (.t 1)⟩,
⟨some 12, some (10, false), .load 1 false (.t 11)⟩,
⟨some 13, some (10, false), .call 36 [(.shut, (.t 12))] [] 110013000⟩,
⟨some 14, some (10, false), .un .not (.t 13)⟩,
⟨some 15, none, .pick (.t 10) (.c (.bool true)) (.t 14)⟩,
⟨some 16, none, .mov (.t 15)⟩,
⟨some 17, some (16, false), .faddr 1 (.t 1)⟩,
⟨some 18, some (16, false), .load 1 false (.t 17)⟩,
⟨some 19, some (16, false), .len (.t 18)⟩,
⟨some 20, some (16, false), .eq true false [.i] (.t 19) (.c (.int .i64 3))⟩,
⟨some 21, none, .pick (.t 16) (.c (.bool true)) (.t 20)⟩,
⟨some 22, none, .mov (.t 21)⟩,
⟨some 23, some (22, false), .faddr 4 (.t 1)⟩,
⟨some 24, some (22, false), .load 1 false (.t 23)⟩,
⟨some 25, some (22, false), .len (.t 24)⟩,
⟨some 26, some (22, false), .eq true false [.i] (.t 25) (.c (.int .i64 3))⟩,
⟨some 27, none, .pick (.t 22) (.c (.bool true)) (.t 26)⟩,
⟨some 28, none, .mov (.t 27)⟩,
⟨some 29, some (28, false), .faddr 2 (.t 1)⟩,
⟨some 30, some (28, false), .load 1 false (.t 29)⟩,
⟨some 31, some (28, false), .bin .lss (.t 30) (.c (.int .i64 2))⟩,
⟨some 32, none, .pick (.t 28) (.c (.bool true)) (.t 31)⟩,
⟨some 33, none, .mov (.t 32)⟩,
⟨some 34, some (33, false), .faddr 2 (.t 1)⟩,
⟨some 35, some (33, false), .load 1 false (.t 34)⟩,
⟨some 36, some (33, false), .call 37 [(.shut, (.t 35))] [] 110036000⟩,
⟨some 37, some (33, false), .un .not (.t 36)⟩,
⟨some 38, none, .pick (.t 33) (.c (.bool true)) (.t 37)⟩,
⟨some 39, none, .mov (.t 38)⟩,
⟨some 40, some (39, false), .faddr 5 (.t 1)⟩,
⟨some 41, some (39, false), .load 3 true (.t 40)⟩,
⟨some 42, some (39, false), .call 38 [(.shut, (.t 41))] [] 110042000⟩,
⟨some 43, some (39, false), .un .not (.t 42)⟩,
⟨some 44, none, .pick (.t 39) (.c (.bool true)) (.t 43)⟩,
⟨some 45, none, .mov (.t 44)⟩,
⟨some 46, some (45, false), .faddr 8 (.t 1)⟩,
⟨some 47, some (45, false), .load 20 true (.t 46)⟩,
⟨some 48, some (45, false), .call 39 [(.shut, (.t 47))] [] 110048000⟩,
⟨some 49, some (45, false), .un .not (.t 48)⟩,
⟨some 50, none, .pick (.t 45) (.c (.bool true)) (.t 49)⟩,
⟨some 51, none, .mov (.t 50)⟩,
⟨some 52, some (51, false), .faddr 28 (.t 1)⟩,
⟨some 53, some (51, false), .load 1 false (.t 52)⟩,
⟨some 54, some (51, false), .len (.t 53)⟩,
⟨some 55, some (51, false), .bin .gtr (.t 54) (.c (.int .i64 8))⟩,
⟨some 56, none, .pick (.t 51) (.c (.bool true)) (.t 55)⟩]
def o13_3 : List Opn := [⟨some 2, none, .mov (.c (.bool false))⟩]
def o13_4 : List Opn := [⟨some 3, none, .mov (.c (.int .i64 0))⟩]
def c13 : IFn := ⟨1, [.t 2], [], [],
.seq (.reg o13_1)
(.seq (.seq (.reg o13_2)
(.cond (.t 56) (.seq (.reg o13_3)
(.ret))
(.skip)))
(.seq (.seq (.reg o13_4)
(.block 0 (.loop b13_1)))
k13_2))⟩
def o14_1 : List Opn := [⟨some 2, none, .box 100002 (.t 0)⟩,
⟨some 3, none, .box 100003 (.t 1)⟩,
⟨some 4, none, .alloc 100004 [.nul, .nul, .int .i64 0, .nul, .nul, .int .i64 0, .int .i64 0, .int .i64 0, .int .i64 0, .int .i64 0, .int .i64 0, .int .i64 0, .int .i64 0, .int .i64 0, .int .i64 0, .int .i64 0, .str [], .nul, .int .i64 0, .int .i64 0, .int .i64 0, .str [], .str [], .nul, .int .i64 0, .int .i64 0, .int .i64 0, .nul, .nul]⟩,
⟨some 5, none, .mov (.c (.int .i64 0))⟩]
def o14_2 : List Opn := [⟨some 11, none, .load 29 true (.t 2)⟩,
⟨some 12, none, .call 12 [(.shut, (.t 11))] [] 110012000⟩,
⟨some 13, none, .un .not (.t 12)⟩,
⟨some 14, none, .mov (.t 13)⟩,
⟨some 15, some (14, false), .faddr 0 (.t 3)⟩,
⟨some 16, some (14, false), .load 1 false (.t 15)⟩,
⟨some 17, some (14, false), .bin .lss (.t 16) (.c (.int .i64 1))⟩,
⟨some 18, none, .pick (.t 14) (.c (.bool true)) (.t 17)⟩,
⟨some 19, none, .mov (.t 18)⟩,
⟨some 20, some (19, false), .faddr 0 (.t 3)⟩,
⟨some 21, some (19, false), .load 1 false (.t 20)⟩,
⟨some 22, some (19, false), .bin .gtr (.t 21) (.c (.int .i64 6))⟩,
⟨some 23, none, .pick (.t 19) (.c (.bool true)) (.t 22)⟩,
⟨some 24, none, .mov (.t 23)⟩,
⟨some 25, some (24, false), .faddr 0 (.t 3)⟩,
⟨some 26, some (24, false), .load 1 false (.t 25)⟩,
⟨some 27, some (24, false), .eq false false [.i] (.t 26) (.c (.int .i64 4))⟩,
⟨some 28, none, .pick (.t 24) (.c (.bool true)) (.t 27)⟩]
def o14_3 : List Opn := [⟨some 29, none, .load 29 true (.t 2)⟩,
⟨none, none, .store 29 (.t 4) (.t 29)⟩,
⟨some 5, none, .mov (.c (.int .i64 1))⟩]
def o14_4 : List Opn := [⟨some 31, none, .faddr 0 (.t 3)⟩,
⟨some 32, none, .load 1 false (.t 31)⟩,
⟨some 33, none, .eq false false [.i] (.t 32) (.c (.int .i64 6))⟩,
⟨some 30, none, .mov (.t 33)⟩]
def o14_5 : List Opn := [⟨some 34, none, .load 29 true (.t 2)⟩,
⟨some 35, none, .call 41 [(.shut, (.t 34))] [] 410035000⟩,
⟨some 36, none, .ext (.t 35) 0⟩,
⟨some 37, none, .ext (.t 35) 1⟩,
⟨none, none, .store 29 (.t 4) (.t 36)⟩,
⟨some 5, none, .mov (.t 37)⟩]
def o14_6 : List Opn := [⟨some 39, none, .faddr 8 (.t 2)⟩,
⟨some 40, none, .faddr 0 (.t 39)⟩,
⟨some 41, none, .load 1 false (.t 40)⟩,
⟨some 42, none, .eq true false [.i] (.t 41) (.c (.int .i64 0))⟩,
⟨some 38, none, .mov (.t 42)⟩]
def o14_7 : List Opn := [⟨some 43, none, .load 29 true (.t 2)⟩,
⟨none, none, .store 29 (.t 4) (.t 43)⟩,
⟨some 5, none, .mov (.c (.int .i64 11))⟩]
def o14_8 : List Opn := [⟨some 45, none, .faddr 2 (.t 2)⟩,
⟨some 46, none, .load 1 false (.t 45)⟩,
⟨some 47, none, .eq false false [.i] (.t 46) (.c (.int .i64 1099511627776))⟩,
⟨some 44, none, .mov (.t 47)⟩]
def o14_9 : List Opn := [⟨some 48, none, .load 29 true (.t 2)⟩,
⟨none, none, .store 29 (.t 4) (.t 48)⟩,
⟨some 5, none, .mov (.c (.int .i64 6))⟩]
def o14_10 : List Opn := [⟨some 49, none, .faddr 0 (.t 3)⟩,
⟨some 50, none, .load 1 false (.t 49)⟩,
⟨some 51, none, .faddr 2 (.t 2)⟩,
⟨some 52, none, .load 1 false (.t 51)⟩,
⟨some 53, none, .build [.int .i64 0, .int .i64 0, .int .i64 0, .int .i64 0, .int .i64 0, .int .i64 0, .int .i64 0, .int .i64 0, .str [], .nul, .int .i64 0, .int .i64 0, .int .i64 0, .str [], .str [], .nul, .int .i64 0, .int .i64 0, .int .i64 0, .nul] [(0, 1, (.t 50)), (1, 1, (.c (.int .i64 1))), (2, 1, (.t 52))]⟩,
⟨some 6, none, .alloc 100006 [.int .i64 0, .int .i64 0, .int .i64 0, .int .i64 0, .int .i64 0, .int .i64 0, .int .i64 0, .int .i64 0, .str [], .nul, .int .i64 0, .int .i64 0, .int .i64 0, .str [], .str [], .nul, .int .i64 0, .int .i64 0, .int .i64 0, .nul]⟩,
⟨none, none, .store 20 (.t 6) (.t 53)⟩]
def o14_11 : List Opn := [⟨some 54, none, .faddr 0 (.t 3)⟩,
⟨some 55, none, .load 1 false (.t 54)⟩,
⟨some 56, none, .eq false false [.i] (.t 55) (.c (.int .i64 5))⟩]
def o14_12 : List Opn := [⟨some 57, none, .faddr 3 (.t 3)⟩,
⟨some 58, none, .load 1 false (.t 57)⟩,
⟨some 59, none, .bin .lss (.t 58) (.c (.int .i64 1))⟩,
⟨some 60, none, .mov (.t 59)⟩,
⟨some 61, some (60, false), .faddr 3 (.t 3)⟩,
⟨some 62, some (60, false), .load 1 false (.t 61)⟩,
⟨some 63, some (60, false), .bin .gtr (.t 62) (.c (.int .i64 3))⟩,
⟨some 64, none, .pick (.t 60) (.c (.bool true)) (.t 63)⟩,
⟨some 65, none, .mov (.t 64)⟩,
⟨some 66, some (65, false), .faddr 5 (.t 3)⟩,
⟨some 67, some (65, false), .load 1 false (.t 66)⟩,
⟨some 68, some (65, false), .call 34 [(.shut, (.t 67))] [] 1110068000⟩,
⟨some 69, some (65, false), .un .not (.t 68)⟩,
⟨some 70, none, .pick (.t 65) (.c (.bool true)) (.t 69)⟩]
def o14_13 : List Opn := [⟨some 71, none, .load 29 true (.t 2)⟩,
⟨none, none, .store 29 (.t 4) (.t 71)⟩,
⟨some 5, none, .mov (.c (.int .i64 1))⟩]
def o14_14 : List Opn := [⟨some 72, none, .faddr 1 (.t 2)⟩,
⟨some 73, none, .load 1 false (.t 72)⟩,
⟨some 74, none, .faddr 3 (.t 3)⟩,
⟨some 75, none, .load 1 false (.t 74)⟩,
⟨some 76, none, .bin .sub (.t 75) (.c (.int .i64 1))⟩,
⟨some 77, none, .iaddr 3 (.t 73) (.t 76)⟩,
⟨some 78, none, .load 3 true (.t 77)⟩,
⟨some 7, none, .alloc 100007 [.int .i64 0, .nul, .bool false]⟩,
⟨none, none, .store 3 (.t 7) (.t 78)⟩]
def o14_15 : List Opn := [⟨some 80, none, .faddr 2 (.t 7)⟩,
⟨some 81, none, .load 1 false (.t 80)⟩,
⟨some 82, none, .un .not (.t 81)⟩,
⟨some 79, none, .mov (.t 82)⟩]
def o14_16 : List Opn := [⟨some 83, none, .load 29 true (.t 2)⟩,
⟨none, none, .store 29 (.t 4) (.t 83)⟩,
⟨some 5, none, .mov (.c (.int .i64 11))⟩]
def o14_17 : List Opn := [⟨some 85, none, .faddr 1 (.t 7)⟩,
⟨some 86, none, .load 1 false (.t 85)⟩,
⟨some 87, none, .faddr 5 (.t 3)⟩,
⟨some 88, none, .load 1 false (.t 87)⟩,
⟨some 89, none, .iaddr 1 (.t 88) (.c (.int .i64 0))⟩,
⟨some 90, none, .load 1 false (.t 89)⟩,
⟨some 91, none, .call 42 [(.shut, (.t 86)), (.shut, (.t 90))] [] 1610091000⟩,
⟨some 92, none, .un .not (.t 91)⟩,
⟨some 84, none, .mov (.t 92)⟩]
def o14_18 : List Opn := [⟨some 93, none, .load 29 true (.t 2)⟩,
⟨none, none, .store 29 (.t 4) (.t 93)⟩,
⟨some 5, none, .mov (.c (.int .i64 9))⟩]
def o14_19 : List Opn := [⟨some 94, none, .faddr 3 (.t 3)⟩,
⟨some 95, none, .load 1 false (.t 94)⟩,
⟨some 96, none, .faddr 5 (.t 3)⟩,
⟨some 97, none, .load 1 false (.t 96)⟩,
⟨some 98, none, .call 43 [(.shut, (.t 97))] [(0, 209800)] 1810098000⟩,
⟨some 99, none, .faddr 5 (.t 6)⟩,
⟨none, none, .store 1 (.t 99) (.t 95)⟩,
⟨some 100, none, .faddr 19 (.t 6)⟩,
⟨none, none, .store 1 (.t 100) (.t 98)⟩]
def o14_20 : List Opn := [⟨some 8, none, .mov (.c (.int .i64 0))⟩]
def o14_21 : List Opn := [⟨some 101, none, .faddr 0 (.t 3)⟩,
⟨some 102, none, .load 1 false (.t 101)⟩]
def o14_22 : List Opn := [⟨some 104, none, .eq false false [.i] (.t 102) (.c (.int .i64 1))⟩,
⟨some 103, none, .mov (.t 104)⟩]
def o14_23 : List Opn := [⟨some 106, none, .faddr 0 (.t 2)⟩,
⟨some 107, none, .load 1 false (.t 106)⟩,
⟨some 108, none, .faddr 1 (.t 3)⟩,
⟨some 109, none, .load 1 false (.t 108)⟩,
⟨some 110, none, .faddr 3 (.t 3)⟩,
⟨some 111, none, .load 1 false (.t 110)⟩,
⟨some 112, none, .faddr 2 (.t 2)⟩,
⟨some 113, none, .load 1 false (.t 112)⟩,
⟨some 114, none, .call 44 [(.shut, (.t 107)), (.shut, (.t 109)), (.shut, (.t 111)), (.shut, (.t 113))] [] 2210114000⟩,
⟨some 105, none, .mov (.t 114)⟩,
⟨some 115, none, .ext (.t 105) 0⟩,
⟨some 116, none, .ext (.t 105) 1⟩,
⟨some 8, none, .mov (.t 116)⟩]
def o14_24 : List Opn := [⟨some 117, none, .faddr 3 (.t 3)⟩,
⟨some 118, none, .load 1 false (.t 117)⟩,
⟨some 119, none, .faddr 6 (.t 6)⟩,
⟨none, none, .store 1 (.t 119) (.t 118)⟩]
def o14_25 : List Opn := [⟨some 121, none, .eq false false [.i] (.t 102) (.c (.int .i64 2))⟩,
⟨some 120, none, .mov (.t 121)⟩]
def o14_26 : List Opn := [⟨some 123, none, .faddr 0 (.t 2)⟩,
⟨some 124, none, .load 1 false (.t 123)⟩,
⟨some 125, none, .faddr 1 (.t 3)⟩,
⟨some 126, none, .load 1 false (.t 125)⟩,
⟨some 127, none, .faddr 4 (.t 3)⟩,
⟨some 128, none, .load 1 false (.t 127)⟩,
⟨some 129, none, .faddr 2 (.t 2)⟩,
⟨some 130, none, .load 1 false (.t 129)⟩,
⟨some 131, none, .faddr 2 (.t 2)⟩,
⟨some 132, none, .load 1 false (.t 131)⟩,
⟨some 133, none, .call 45 [(.shut, (.t 124)), (.shut, (.t 126)), (.shut, (.t 128)), (.shut, (.t 130)), (.shut, (.t 132))] [] 2510133000⟩,
⟨some 122, none, .mov (.t 133)⟩,
⟨some 134, none, .ext (.t 122) 0⟩,
⟨some 135, none, .ext (.t 122) 1⟩,
⟨some 8, none, .mov (.t 135)⟩]
def o14_27 : List Opn := [⟨some 136, none, .faddr 4 (.t 3)⟩,
⟨some 137, none, .load 1 false (.t 136)⟩,
⟨some 138, none, .faddr 2 (.t 2)⟩,
⟨some 139, none, .load 1 false (.t 138)⟩,
⟨some 140, none, .faddr 8 (.t 6)⟩,
⟨none, none, .store 1 (.t 140) (.t 137)⟩,
⟨some 141, none, .faddr 4 (.t 6)⟩,
⟨none, none, .store 1 (.t 141) (.t 139)⟩]
def o14_28 : List Opn := [⟨some 143, none, .eq false false [.i] (.t 102) (.c (.int .i64 3))⟩,
⟨some 142, none, .mov (.t 143)⟩]
def o14_29 : List Opn := [⟨some 145, none, .faddr 0 (.t 2)⟩,
⟨some 146, none, .load 1 false (.t 145)⟩,
⟨some 147, none, .faddr 1 (.t 3)⟩,
⟨some 148, none, .load 1 false (.t 147)⟩,
⟨some 149, none, .faddr 2 (.t 3)⟩,
⟨some 150, none, .load 1 false (.t 149)⟩,
⟨some 151, none, .faddr 2 (.t 2)⟩,
⟨some 152, none, .load 1 false (.t 151)⟩,
⟨some 153, none, .call 46 [(.shut, (.t 146)), (.shut, (.t 148)), (.shut, (.t 150)), (.shut, (.t 152))] [] 2810153000⟩,
⟨some 144, none, .mov (.t 153)⟩,
⟨some 154, none, .ext (.t 144) 0⟩,
⟨some 155, none, .ext (.t 144) 1⟩,
⟨some 8, none, .mov (.t 155)⟩]
def o14_30 : List Opn := [⟨some 156, none, .faddr 2 (.t 3)⟩,
⟨some 157, none, .load 1 false (.t 156)⟩,
⟨some 158, none, .faddr 4 (.t 6)⟩,
⟨none, none, .store 1 (.t 158) (.t 157)⟩]
def o14_31 : List Opn := [⟨some 159, none, .mov (.t 8)⟩,
⟨some 160, none, .eq true false [.i] (.t 159) (.c (.int .i64 0))⟩]
def o14_32 : List Opn := [⟨some 161, none, .load 29 true (.t 2)⟩,
⟨some 162, none, .mov (.t 8)⟩,
⟨none, none, .store 29 (.t 4) (.t 161)⟩,
⟨some 5, none, .mov (.t 162)⟩]
def o14_33 : List Opn := [⟨some 164, none, .faddr 0 (.t 2)⟩,
⟨some 165, none, .load 1 false (.t 164)⟩,
⟨some 166, none, .faddr 1 (.t 3)⟩,
⟨some 167, none, .load 1 false (.t 166)⟩,
⟨some 168, none, .call 47 [(.shut, (.t 165)), (.shut, (.t 167))] [] 3210168000⟩,
⟨some 163, none, .mov (.t 168)⟩,
⟨some 169, none, .ext (.t 163) 0⟩,
⟨some 170, none, .ext (.t 163) 1⟩,
⟨some 9, none, .alloc 100009 [.str [], .str [], .int .i64 0, .int .i64 0, .int .i64 0]⟩,
⟨none, none, .store 5 (.t 9) (.t 169)⟩,
⟨some 10, none, .mov (.t 170)⟩]
def o14_34 : List Opn := [⟨some 171, none, .faddr 1 (.t 3)⟩,
⟨some 172, none, .load 1 false (.t 171)⟩,
⟨some 173, none, .faddr 3 (.t 9)⟩,
⟨some 174, none, .load 1 false (.t 173)⟩,
⟨some 175, none, .faddr 4 (.t 9)⟩,
⟨some 176, none, .load 1 false (.t 175)⟩,
⟨some 177, none, .faddr 3 (.t 6)⟩,
⟨none, none, .store 1 (.t 177) (.t 172)⟩,
⟨some 178, none, .faddr 5 (.t 6)⟩,
⟨none, none, .store 1 (.t 178) (.t 174)⟩,
⟨some 179, none, .faddr 7 (.t 6)⟩,
⟨none, none, .store 1 (.t 179) (.t 176)⟩]
def o14_35 : List Opn := [⟨some 180, none, .load 20 true (.t 6)⟩,
⟨some 181, none, .faddr 8 (.t 2)⟩,
⟨none, none, .store 20 (.t 181) (.t 180)⟩]
def o14_36 : List Opn := [⟨some 182, none, .faddr 2 (.t 2)⟩,
⟨some 183, none, .load 1 false (.t 182)⟩,
⟨some 184, none, .bin .add (.t 183) (.c (.int .i64 1))⟩,
⟨some 185, none, .faddr 2 (.t 2)⟩,
⟨none, none, .store 1 (.t 185) (.t 184)⟩]
def o14_37 : List Opn := [⟨some 186, none, .load 29 true (.t 2)⟩,
⟨none, none, .store 29 (.t 4) (.t 186)⟩,
⟨some 5, none, .mov (.c (.int .i64 0))⟩]
def c14 : IFn := ⟨2, [.m 4 29 true, .t 5], [], [],
.seq (.reg o14_1)
(.seq (.seq (.reg o14_2)
(.cond (.t 28) (.seq (.reg o14_3)
(.ret))
(.skip)))
(.seq (.block 0 (.seq (.reg o14_4)
(.cond (.t 30) (.seq (.reg o14_5)
(.ret))
(.seq (.reg o14_6)
(.cond (.t 38) (.seq (.reg o14_7)
(.ret))
(.seq (.reg o14_8)
(.cond (.t 44) (.seq (.reg o14_9)
(.ret))
(.skip))))))))
(.seq (.reg o14_10)
(.seq (.seq (.reg o14_11)
(.cond (.t 56) (.seq (.seq (.reg o14_12)
(.cond (.t 70) (.seq (.reg o14_13)
(.ret))
(.skip)))
(.seq (.seq (.reg o14_14)
(.block 1 (.seq (.reg o14_15)
(.cond (.t 79) (.seq (.reg o14_16)
(.ret))
(.seq (.dreg o14_17
[])
(.cond (.t 84) (.seq (.reg o14_18)
(.ret))
(.skip)))))))
(.dreg o14_19
[(0, 4), (1, 4), (4, 5)])))
(.seq (.reg o14_20)
(.seq (.seq (.reg o14_21)
(.block 2 (.seq (.reg o14_22)
(.cond (.t 103) (.seq (.reg o14_23)
(.reg o14_24))
(.seq (.reg o14_25)
(.cond (.t 120) (.seq (.reg o14_26)
(.dreg o14_27
[(2, 5), (3, 5)]))
(.seq (.reg o14_28)
(.cond (.t 142) (.seq (.reg o14_29)
(.reg o14_30))
(.skip)))))))))
(.seq (.seq (.reg o14_31)
(.cond (.t 160) (.seq (.reg o14_32)
(.ret))
(.skip)))
(.seq (.reg o14_33)
(.dreg o14_34
[(2, 7), (3, 7), (4, 7), (5, 7), (4, 9), (5, 9)])))))))
(.seq (.reg o14_35)
(.seq (.reg o14_36)
(.seq (.reg o14_37)
(.ret))))))))⟩
def ob15_1_1 : List Opn := [⟨some 33, none, .mov (.t 5)⟩,
⟨some 34, none, .faddr 1 (.t 2)⟩,
⟨some 35, none, .load 1 false (.t 34)⟩,
⟨some 36, none, .len (.t 35)⟩,
⟨some 37, none, .bin .lss (.t 33) (.t 36)⟩]
def ob15_1_2 : List Opn := [⟨some 40, none, .faddr 1 (.t 2)⟩,
⟨some 41, none, .load 1 false (.t 40)⟩,
⟨some 42, none, .mov (.t 5)⟩,
⟨some 43, none, .iaddr 3 (.t 41) (.t 42)⟩,
⟨some 44, none, .faddr 0 (.t 43)⟩,
⟨some 45, none, .load 1 false (.t 44)⟩,
⟨some 46, none, .faddr 1 (.t 3)⟩,
⟨some 47, none, .load 1 false (.t 46)⟩,
⟨some 48, none, .mov (.t 5)⟩,
⟨some 49, none, .iaddr 3 (.t 47) (.t 48)⟩,
⟨some 50, none, .faddr 0 (.t 49)⟩,
⟨some 51, none, .load 1 false (.t 50)⟩,
⟨some 52, none, .eq true false [.i] (.t 45) (.t 51)⟩,
⟨some 53, none, .mov (.t 52)⟩,
⟨some 54, some (53, false), .faddr 1 (.t 2)⟩,
⟨some 55, some (53, false), .load 1 false (.t 54)⟩,
⟨some 56, some (53, false), .mov (.t 5)⟩,
⟨some 57, some (53, false), .iaddr 3 (.t 55) (.t 56)⟩,
⟨some 58, some (53, false), .faddr 2 (.t 57)⟩,
⟨some 59, some (53, false), .load 1 false (.t 58)⟩,
⟨some 60, some (53, false), .faddr 1 (.t 3)⟩,
⟨some 61, some (53, false), .load 1 false (.t 60)⟩,
⟨some 62, some (53, false), .mov (.t 5)⟩,
⟨some 63, some (53, false), .iaddr 3 (.t 61) (.t 62)⟩,
⟨some 64, some (53, false), .faddr 2 (.t 63)⟩,
⟨some 65, some (53, false), .load 1 false (.t 64)⟩,
⟨some 66, some (53, false), .eq true false [.b] (.t 59) (.t 65)⟩,
⟨some 67, none, .pick (.t 53) (.c (.bool true)) (.t 66)⟩,
⟨some 68, none, .mov (.t 67)⟩,
⟨some 69, some (68, false), .faddr 1 (.t 2)⟩,
⟨some 70, some (68, false), .load 1 false (.t 69)⟩,
⟨some 71, some (68, false), .mov (.t 5)⟩,
⟨some 72, some (68, false), .iaddr 3 (.t 70) (.t 71)⟩,
⟨some 73, some (68, false), .faddr 1 (.t 72)⟩,
⟨some 74, some (68, false), .load 1 false (.t 73)⟩,
⟨some 75, some (68, false), .faddr 1 (.t 3)⟩,
⟨some 76, some (68, false), .load 1 false (.t 75)⟩,
⟨some 77, some (68, false), .mov (.t 5)⟩,
⟨some 78, some (68, false), .iaddr 3 (.t 76) (.t 77)⟩,
⟨some 79, some (68, false), .faddr 1 (.t 78)⟩,
⟨some 80, some (68, false), .load 1 false (.t 79)⟩,
⟨some 81, some (68, false), .call 48 [(.shut, (.t 74)), (.shut, (.t 80))] [] 610081000⟩,
⟨some 82, some (68, false), .un .not (.t 81)⟩,
⟨some 83, none, .pick (.t 68) (.c (.bool true)) (.t 82)⟩]
def ob15_1_3 : List Opn := [⟨some 4, none, .mov (.c (.bool false))⟩]
def ob15_1_4 : List Opn := [⟨some 38, none, .mov (.t 5)⟩,
⟨some 39, none, .bin .add (.t 38) (.c (.int .i64 1))⟩,
⟨some 5, none, .mov (.t 39)⟩]
def b15_1 : IC := (.seq (.gh (.keep [2, 3, 5] [100002, 100003]))
(.seq (.seq (.reg ob15_1_1)
(.cond (.t 37) (.skip)
(.exit 0)))
(.seq (.block 1 (.seq (.dreg ob15_1_2
[])
(.cond (.t 83) (.seq (.reg ob15_1_3)
(.ret))
(.skip))))
(.reg ob15_1_4))))
def ob15_2_1 : List Opn := [⟨some 84, none, .mov (.t 6)⟩,
⟨some 85, none, .faddr 4 (.t 2)⟩,
⟨some 86, none, .load 1 false (.t 85)⟩,
⟨some 87, none, .len (.t 86)⟩,
⟨some 88, none, .bin .lss (.t 84) (.t 87)⟩]
def ob15_2_2 : List Opn := [⟨some 91, none, .faddr 4 (.t 2)⟩,
⟨some 92, none, .load 1 false (.t 91)⟩,
⟨some 93, none, .mov (.t 6)⟩,
⟨some 94, none, .iaddr 3 (.t 92) (.t 93)⟩,
⟨some 95, none, .load 3 true (.t 94)⟩,
⟨some 96, none, .faddr 4 (.t 3)⟩,
⟨some 97, none, .load 1 false (.t 96)⟩,
⟨some 98, none, .mov (.t 6)⟩,
⟨some 99, none, .iaddr 3 (.t 97) (.t 98)⟩,
⟨some 100, none, .load 3 true (.t 99)⟩,
⟨some 101, none, .eq true true [.i, .i, .i] (.t 95) (.t 100)⟩]
def ob15_2_3 : List Opn := [⟨some 4, none, .mov (.c (.bool false))⟩]
def ob15_2_4 : List Opn := [⟨some 89, none, .mov (.t 6)⟩,
⟨some 90, none, .bin .add (.t 89) (.c (.int .i64 1))⟩,
⟨some 6, none, .mov (.t 90)⟩]
def b15_2 : IC := (.seq (.gh (.keep [2, 3, 6] [100002, 100003]))
(.seq (.seq (.reg ob15_2_1)
(.cond (.t 88) (.skip)
(.exit 2)))
(.seq (.block 3 (.seq (.dreg ob15_2_2
[])
(.cond (.t 101) (.seq (.reg ob15_2_3)
(.ret))
(.skip))))
(.reg ob15_2_4))))
def ob15_3_1 : List Opn := [⟨some 102, none, .mov (.t 7)⟩,
⟨some 103, none, .faddr 28 (.t 2)⟩,
⟨some 104, none, .load 1 false (.t 103)⟩,
⟨some 105, none, .len (.t 104)⟩,
⟨some 106, none, .bin .lss (.t 102) (.t 105)⟩]
def ob15_3_2 : List Opn := [⟨some 109, none, .faddr 28 (.t 2)⟩,
⟨some 110, none, .load 1 false (.t 109)⟩,
⟨some 111, none, .mov (.t 7)⟩,
⟨some 112, none, .iaddr 7 (.t 110) (.t 111)⟩,
⟨some 113, none, .load 7 true (.t 112)⟩,
⟨some 114, none, .faddr 28 (.t 3)⟩,
⟨some 115, none, .load 1 false (.t 114)⟩,
⟨some 116, none, .mov (.t 7)⟩,
⟨some 117, none, .iaddr 7 (.t 115) (.t 116)⟩,
⟨some 118, none, .load 7 true (.t 117)⟩,
⟨some 119, none, .eq true true [.i, .i, .i, .i, .i, .i, .i] (.t 113) (.t 118)⟩]
def ob15_3_3 : List Opn := [⟨some 4, none, .mov (.c (.bool false))⟩]
def ob15_3_4 : List Opn := [⟨some 107, none, .mov (.t 7)⟩,
⟨some 108, none, .bin .add (.t 107) (.c (.int .i64 1))⟩,
⟨some 7, none, .mov (.t 108)⟩]
def b15_3 : IC := (.seq (.gh (.keep [2, 3, 7] [100002, 100003]))
(.seq (.seq (.reg ob15_3_1)
(.cond (.t 106) (.skip)
(.exit 4)))
(.seq (.block 5 (.seq (.dreg ob15_3_2
[])
(.cond (.t 119) (.seq (.reg ob15_3_3)
(.ret))
(.skip))))
(.reg ob15_3_4))))
def ok15_1_1 : List Opn := [⟨some 120, none, .faddr 0 (.t 2)⟩,
⟨some 121, none, .load 1 false (.t 120)⟩,
⟨some 122, none, .faddr 0 (.t 3)⟩,
⟨some 123, none, .load 1 false (.t 122)⟩,
⟨some 124, none, .call 49 [(.shut, (.t 121)), (.shut, (.t 123))] [] 1810124000⟩,
⟨some 125, none, .mov (.t 124)⟩,
⟨some 126, some (125, true), .faddr 2 (.t 2)⟩,
⟨some 127, some (125, true), .load 1 false (.t 126)⟩,
⟨some 128, some (125, true), .faddr 2 (.t 3)⟩,
⟨some 129, some (125, true), .load 1 false (.t 128)⟩,
⟨some 130, some (125, true), .eq false false [.i] (.t 127) (.t 129)⟩,
⟨some 131, none, .pick (.t 125) (.t 130) (.c (.bool false))⟩,
⟨some 132, none, .mov (.t 131)⟩,
⟨some 133, some (132, true), .faddr 3 (.t 2)⟩,
⟨some 134, some (132, true), .load 1 false (.t 133)⟩,
⟨some 135, some (132, true), .faddr 3 (.t 3)⟩,
⟨some 136, some (132, true), .load 1 false (.t 135)⟩,
⟨some 137, some (132, true), .call 50 [(.shut, (.t 134)), (.shut, (.t 136))] [] 1810137000⟩,
⟨some 138, none, .pick (.t 132) (.t 137) (.c (.bool false))⟩,
⟨some 139, none, .mov (.t 138)⟩,
⟨some 140, some (139, true), .faddr 5 (.t 2)⟩,
⟨some 141, some (139, true), .load 3 true (.t 140)⟩,
⟨some 142, some (139, true), .faddr 5 (.t 3)⟩,
⟨some 143, some (139, true), .load 3 true (.t 142)⟩,
⟨some 144, some (139, true), .eq false true [.i, .i, .i] (.t 141) (.t 143)⟩,
⟨some 145, none, .pick (.t 139) (.t 144) (.c (.bool false))⟩,
⟨some 146, none, .mov (.t 145)⟩,
⟨some 147, some (146, true), .faddr 8 (.t 2)⟩,
⟨some 148, some (146, true), .load 20 true (.t 147)⟩,
⟨some 149, some (146, true), .faddr 8 (.t 3)⟩,
⟨some 150, some (146, true), .load 20 true (.t 149)⟩,
⟨some 151, some (146, true), .call 51 [(.shut, (.t 148)), (.shut, (.t 150))] [] 1810151000⟩,
⟨some 152, none, .pick (.t 146) (.t 151) (.c (.bool false))⟩,
⟨some 4, none, .mov (.t 152)⟩]
def k15_1 : IC := (.seq (.reg ok15_1_1)
(.ret))
def ok15_2_1 : List Opn := [⟨some 7, none, .mov (.c (.int .i64 0))⟩]
def k15_2 : IC := (.seq (.seq (.reg ok15_2_1)
(.block 4 (.loop b15_3)))
k15_1)
def ok15_3_1 : List Opn := [⟨some 6, none, .mov (.c (.int .i64 0))⟩]
def k15_3 : IC := (.seq (.seq (.reg ok15_3_1)
(.block 2 (.loop b15_2)))
k15_2)
def o15_1 : List Opn := [⟨some 2, none, .box 100002 (.t 0)⟩,
⟨some 3, none, .box 100003 (.t 1)⟩,
⟨some 4, none, .mov (.c (.bool false))⟩]
def o15_2 : List Opn := [⟨some 8, none, .faddr 1 (.t 2)⟩,
⟨some 9, none, .load 1 false (.t 8)⟩,
⟨some 10, none, .len (.t 9)⟩,
⟨some 11, none, .faddr 1 (.t 3)⟩,
⟨some 12, none, .load 1 false (.t 11)⟩,
⟨some 13, none, .len (.t 12)⟩,
⟨some 14, none, .eq true false [.i] (.t 10) (.t 13)⟩,
⟨some 15, none, .mov (.t 14)⟩,
⟨some 16, some (15, false), .faddr 4 (.t 2)⟩,
⟨some 17, some (15, false), .load 1 false (.t 16)⟩,
⟨some 18, some (15, false), .len (.t 17)⟩,
⟨some 19, some (15, false), .faddr 4 (.t 3)⟩,
⟨some 20, some (15, false), .load 1 false (.t 19)⟩,
⟨some 21, some (15, false), .len (.t 20)⟩,
⟨some 22, some (15, false), .eq true false [.i] (.t 18) (.t 21)⟩,
⟨some 23, none, .pick (.t 15) (.c (.bool true)) (.t 22)⟩,
⟨some 24, none, .mov (.t 23)⟩,
⟨some 25, some (24, false), .faddr 28 (.t 2)⟩,
⟨some 26, some (24, false), .load 1 false (.t 25)⟩,
⟨some 27, some (24, false), .len (.t 26)⟩,
⟨some 28, some (24, false), .faddr 28 (.t 3)⟩,
⟨some 29, some (24, false), .load 1 false (.t 28)⟩,
⟨some 30, some (24, false), .len (.t 29)⟩,
⟨some 31, some (24, false), .eq true false [.i] (.t 27) (.t 30)⟩,
⟨some 32, none, .pick (.t 24) (.c (.bool true)) (.t 31)⟩]
def o15_3 : List Opn := [⟨some 4, none, .mov (.c (.bool false))⟩]
def o15_4 : List Opn := [⟨some 5, none, .mov (.c (.int .i64 0))⟩]
def c15 : IFn := ⟨2, [.t 4], [], [],
.seq (.reg o15_1)
(.seq (.seq (.reg o15_2)
(.cond (.t 32) (.seq (.reg o15_3)
(.ret))
(.skip)))
(.seq (.seq (.reg o15_4)
(.block 0 (.loop b15_1)))
k15_3))⟩
def ob16_1_1 : List Opn := [⟨some 106, none, .mov (.t 10)⟩,
⟨some 107, none, .faddr 1 (.t 8)⟩,
⟨some 108, none, .load 1 false (.t 107)⟩,
⟨some 109, none, .len (.t 108)⟩,
⟨some 110, none, .bin .lss (.t 106) (.t 109)⟩]
def ob16_1_2 : List Opn := [⟨some 113, none, .mov (.t 9)⟩,
⟨some 114, none, .mov (.t 113)⟩,
⟨some 115, some (114, false), .faddr 1 (.t 8)⟩,
⟨some 116, some (114, false), .load 1 false (.t 115)⟩,
⟨some 117, some (114, false), .mov (.t 10)⟩,
⟨some 118, some (114, false), .iaddr 1 (.t 116) (.t 117)⟩,
⟨some 119, some (114, false), .load 1 false (.t 118)⟩,
⟨some 120, some (114, false), .faddr 5 (.t 3)⟩,
⟨some 121, some (114, false), .load 1 false (.t 120)⟩,
⟨some 122, some (114, false), .iaddr 1 (.t 121) (.c (.int .i64 0))⟩,
⟨some 123, some (114, false), .load 1 false (.t 122)⟩,
⟨some 124, some (114, false), .eq false false [.i] (.t 119) (.t 123)⟩,
⟨some 125, none, .pick (.t 114) (.c (.bool true)) (.t 124)⟩,
⟨some 9, none, .mov (.t 125)⟩]
def ob16_1_3 : List Opn := [⟨some 111, none, .mov (.t 10)⟩,
⟨some 112, none, .bin .add (.t 111) (.c (.int .i64 1))⟩,
⟨some 10, none, .mov (.t 112)⟩]
def b16_1 : IC := (.seq (.gh (.keep [2, 3, 4, 6, 7, 8, 9, 10] [100002, 100003, 100004, 100006, 100008]))
(.seq (.seq (.reg ob16_1_1)
(.cond (.t 110) (.skip)
(.exit 0)))
(.seq (.block 1 (.dreg ob16_1_2
[]))
(.reg ob16_1_3))))
def ok16_1_1 : List Opn := [⟨some 141, none, .faddr 0 (.t 3)⟩,
⟨some 142, none, .load 1 false (.t 141)⟩,
⟨some 143, none, .bin .sub (.t 142) (.c (.int .i64 1))⟩,
⟨some 144, none, .faddr 3 (.t 3)⟩,
⟨some 145, none, .load 1 false (.t 144)⟩,
⟨some 11, none, .mov (.t 143)⟩,
⟨some 12, none, .mov (.t 145)⟩]
def ok16_1_2 : List Opn := [⟨some 146, none, .faddr 0 (.t 3)⟩,
⟨some 147, none, .load 1 false (.t 146)⟩,
⟨some 148, none, .eq false false [.i] (.t 147) (.c (.int .i64 2))⟩]
def ok16_1_3 : List Opn := [⟨some 149, none, .mov (.t 7)⟩,
⟨some 12, none, .mov (.t 149)⟩]
def ok16_1_4 : List Opn := [⟨some 150, none, .faddr 0 (.t 3)⟩,
⟨some 151, none, .load 1 false (.t 150)⟩,
⟨some 152, none, .eq false false [.i] (.t 151) (.c (.int .i64 3))⟩]
def ok16_1_5 : List Opn := [⟨some 153, none, .faddr 2 (.t 3)⟩,
⟨some 154, none, .load 1 false (.t 153)⟩,
⟨some 12, none, .mov (.t 154)⟩]
def ok16_1_6 : List Opn := [⟨some 156, none, .faddr 0 (.t 2)⟩,
⟨some 157, none, .load 1 false (.t 156)⟩,
⟨some 158, none, .mov (.t 11)⟩,
⟨some 159, none, .faddr 1 (.t 3)⟩,
⟨some 160, none, .load 1 false (.t 159)⟩,
⟨some 161, none, .mov (.t 12)⟩,
⟨some 162, none, .faddr 4 (.t 3)⟩,
⟨some 163, none, .load 1 false (.t 162)⟩,
⟨some 164, none, .mov (.t 7)⟩,
⟨some 165, none, .call 52 [(.shut, (.t 157)), (.shut, (.t 158)), (.shut, (.t 160)), (.shut, (.t 161)), (.shut, (.t 163)), (.shut, (.t 164))] [] 3910165000⟩,
⟨some 155, none, .mov (.t 165)⟩,
⟨some 166, none, .ext (.t 155) 0⟩,
⟨some 167, none, .ext (.t 155) 1⟩,
⟨some 13, none, .mov (.t 166)⟩,
⟨some 14, none, .mov (.t 167)⟩]
def ok16_1_7 : List Opn := [⟨some 168, none, .mov (.t 14)⟩,
⟨some 169, none, .eq true false [.i] (.t 168) (.c (.int .i64 0))⟩]
def ok16_1_8 : List Opn := [⟨some 170, none, .load 29 true (.t 2)⟩,
⟨some 171, none, .mov (.t 14)⟩,
⟨none, none, .store 29 (.t 4) (.t 170)⟩,
⟨some 5, none, .mov (.t 171)⟩]
def ok16_1_9 : List Opn := [⟨some 172, none, .faddr 0 (.t 2)⟩,
⟨some 173, none, .load 1 false (.t 172)⟩,
⟨some 174, none, .faddr 0 (.t 2)⟩,
⟨some 175, none, .load 1 false (.t 174)⟩,
⟨some 176, none, .faddr 1 (.t 3)⟩,
⟨some 177, none, .load 1 false (.t 176)⟩,
⟨some 178, none, .call 53 [(.shut, (.t 175)), (.shut, (.t 177))] [] 4210178000⟩,
⟨some 179, none, .iaddr 5 (.t 173) (.t 178)⟩,
⟨some 180, none, .load 5 true (.t 179)⟩,
⟨some 15, none, .alloc 100015 [.str [], .str [], .int .i64 0, .int .i64 0, .int .i64 0]⟩,
⟨none, none, .store 5 (.t 15) (.t 180)⟩]
def ok16_1_10 : List Opn := [⟨some 181, none, .faddr 1 (.t 3)⟩,
⟨some 182, none, .load 1 false (.t 181)⟩,
⟨some 183, none, .faddr 3 (.t 15)⟩,
⟨some 184, none, .load 1 false (.t 183)⟩,
⟨some 185, none, .faddr 4 (.t 15)⟩,
⟨some 186, none, .load 1 false (.t 185)⟩,
⟨some 187, none, .faddr 3 (.t 6)⟩,
⟨none, none, .store 1 (.t 187) (.t 182)⟩,
⟨some 188, none, .faddr 5 (.t 6)⟩,
⟨none, none, .store 1 (.t 188) (.t 184)⟩,
⟨some 189, none, .faddr 7 (.t 6)⟩,
⟨none, none, .store 1 (.t 189) (.t 186)⟩]
def ok16_1_11 : List Opn := [⟨some 190, none, .faddr 0 (.t 3)⟩,
⟨some 191, none, .load 1 false (.t 190)⟩,
⟨some 192, none, .eq false false [.i] (.t 191) (.c (.int .i64 1))⟩]
def ok16_1_12 : List Opn := [⟨some 193, none, .faddr 3 (.t 3)⟩,
⟨some 194, none, .load 1 false (.t 193)⟩,
⟨some 195, none, .faddr 6 (.t 6)⟩,
⟨none, none, .store 1 (.t 195) (.t 194)⟩]
def ok16_1_13 : List Opn := [⟨some 196, none, .mov (.t 12)⟩,
⟨some 197, none, .faddr 4 (.t 6)⟩,
⟨none, none, .store 1 (.t 197) (.t 196)⟩]
def ok16_1_14 : List Opn := [⟨some 198, none, .faddr 0 (.t 3)⟩,
⟨some 199, none, .load 1 false (.t 198)⟩,
⟨some 200, none, .eq false false [.i] (.t 199) (.c (.int .i64 2))⟩]
def ok16_1_15 : List Opn := [⟨some 201, none, .faddr 4 (.t 3)⟩,
⟨some 202, none, .load 1 false (.t 201)⟩,
⟨some 203, none, .faddr 8 (.t 6)⟩,
⟨none, none, .store 1 (.t 203) (.t 202)⟩]
def ok16_1_16 : List Opn := [⟨some 204, none, .load 20 true (.t 6)⟩,
⟨some 205, none, .mov (.t 7)⟩,
⟨some 206, none, .bin .add (.t 205) (.c (.int .i64 1))⟩,
⟨some 207, none, .faddr 8 (.t 2)⟩,
⟨none, none, .store 20 (.t 207) (.t 204)⟩,
⟨some 208, none, .faddr 2 (.t 2)⟩,
⟨none, none, .store 1 (.t 208) (.t 206)⟩]
def ok16_1_17 : List Opn := [⟨some 209, none, .load 29 true (.t 2)⟩,
⟨none, none, .store 29 (.t 4) (.t 209)⟩,
⟨some 5, none, .mov (.c (.int .i64 0))⟩]
def k16_1 : IC := (.seq (.dreg ok16_1_1
[])
(.seq (.seq (.reg ok16_1_2)
(.cond (.t 148) (.reg ok16_1_3)
(.skip)))
(.seq (.seq (.reg ok16_1_4)
(.cond (.t 152) (.reg ok16_1_5)
(.skip)))
(.seq (.reg ok16_1_6)
(.seq (.seq (.reg ok16_1_7)
(.cond (.t 169) (.seq (.reg ok16_1_8)
(.ret))
(.skip)))
(.seq (.dreg ok16_1_9
[(0, 6), (1, 6), (0, 9), (1, 9), (2, 9), (3, 9), (4, 9), (5, 9), (6, 9), (7, 9), (8, 9)])
(.seq (.dreg ok16_1_10
[(2, 7), (3, 7), (4, 7), (5, 7), (4, 9), (5, 9)])
(.seq (.seq (.reg ok16_1_11)
(.cond (.t 192) (.reg ok16_1_12)
(.reg ok16_1_13)))
(.seq (.seq (.reg ok16_1_14)
(.cond (.t 200) (.reg ok16_1_15)
(.skip)))
(.seq (.reg ok16_1_16)
(.seq (.reg ok16_1_17)
(.ret))))))))))))
def o16_1 : List Opn := [⟨some 2, none, .box 100002 (.t 0)⟩,
⟨some 3, none, .box 100003 (.t 1)⟩,
⟨some 4, none, .alloc 100004 [.nul, .nul, .int .i64 0, .nul, .nul, .int .i64 0, .int .i64 0, .int .i64 0, .int .i64 0, .int .i64 0, .int .i64 0, .int .i64 0, .int .i64 0, .int .i64 0, .int .i64 0, .int .i64 0, .str [], .nul, .int .i64 0, .int .i64 0, .int .i64 0, .str [], .str [], .nul, .int .i64 0, .int .i64 0, .int .i64 0, .nul, .nul]⟩,
⟨some 5, none, .mov (.c (.int .i64 0))⟩]
def o16_2 : List Opn := [⟨some 16, none, .faddr 8 (.t 2)⟩,
⟨some 17, none, .load 20 true (.t 16)⟩,
⟨some 6, none, .alloc 100006 [.int .i64 0, .int .i64 0, .int .i64 0, .int .i64 0, .int .i64 0, .int .i64 0, .int .i64 0, .int .i64 0, .str [], .nul, .int .i64 0, .int .i64 0, .int .i64 0, .str [], .str [], .nul, .int .i64 0, .int .i64 0, .int .i64 0, .nul]⟩,
⟨none, none, .store 20 (.t 6) (.t 17)⟩]
def o16_3 : List Opn := [⟨some 18, none, .faddr 0 (.t 3)⟩,
⟨some 19, none, .load 1 false (.t 18)⟩,
⟨some 20, none, .bin .lss (.t 19) (.c (.int .i64 1))⟩,
⟨some 21, none, .mov (.t 20)⟩,
⟨some 22, some (21, false), .faddr 0 (.t 3)⟩,
⟨some 23, some (21, false), .load 1 false (.t 22)⟩,
⟨some 24, some (21, false), .bin .gtr (.t 23) (.c (.int .i64 6))⟩,
⟨some 25, none, .pick (.t 21) (.c (.bool true)) (.t 24)⟩,
⟨some 26, none, .mov (.t 25)⟩,
⟨some 27, some (26, false), .faddr 0 (.t 3)⟩,
⟨some 28, some (26, false), .load 1 false (.t 27)⟩,
⟨some 29, some (26, false), .eq false false [.i] (.t 28) (.c (.int .i64 4))⟩,
⟨some 30, none, .pick (.t 26) (.c (.bool true)) (.t 29)⟩]
def o16_4 : List Opn := [⟨some 31, none, .load 29 true (.t 2)⟩,
⟨none, none, .store 29 (.t 4) (.t 31)⟩,
⟨some 5, none, .mov (.c (.int .i64 1))⟩]
def o16_5 : List Opn := [⟨some 32, none, .faddr 0 (.t 3)⟩,
⟨some 33, none, .load 1 false (.t 32)⟩,
⟨some 34, none, .eq false false [.i] (.t 33) (.c (.int .i64 6))⟩]
def o16_6 : List Opn := [⟨some 35, none, .faddr 0 (.t 6)⟩,
⟨some 36, none, .load 1 false (.t 35)⟩,
⟨some 37, none, .eq false false [.i] (.t 36) (.c (.int .i64 1))⟩,
⟨some 38, none, .mov (.t 37)⟩,
⟨some 39, some (38, true), .faddr 1 (.t 6)⟩,
⟨some 40, some (38, true), .load 1 false (.t 39)⟩,
⟨some 41, some (38, true), .bin .lss (.t 40) (.c (.int .i64 4))⟩,
⟨some 42, none, .pick (.t 38) (.t 41) (.c (.bool false))⟩]
def o16_7 : List Opn := [⟨some 43, none, .faddr 8 (.t 2)⟩,
⟨some 44, none, .faddr 1 (.t 43)⟩,
⟨none, none, .store 1 (.t 44) (.c (.int .i64 6))⟩]
def o16_8 : List Opn := [⟨some 45, none, .load 29 true (.t 2)⟩,
⟨none, none, .store 29 (.t 4) (.t 45)⟩,
⟨some 5, none, .mov (.c (.int .i64 0))⟩]
def o16_9 : List Opn := [⟨some 46, none, .faddr 0 (.t 6)⟩,
⟨some 47, none, .load 1 false (.t 46)⟩,
⟨some 48, none, .eq false false [.i] (.t 47) (.c (.int .i64 2))⟩,
⟨some 49, none, .mov (.t 48)⟩,
⟨some 50, some (49, false), .faddr 0 (.t 6)⟩,
⟨some 51, some (49, false), .load 1 false (.t 50)⟩,
⟨some 52, some (49, false), .eq false false [.i] (.t 51) (.c (.int .i64 3))⟩,
⟨some 53, none, .pick (.t 49) (.c (.bool true)) (.t 52)⟩,
⟨some 54, none, .mov (.t 53)⟩,
⟨some 55, some (54, true), .faddr 1 (.t 6)⟩,
⟨some 56, some (54, true), .load 1 false (.t 55)⟩,
⟨some 57, some (54, true), .eq false false [.i] (.t 56) (.c (.int .i64 1))⟩,
⟨some 58, none, .pick (.t 54) (.t 57) (.c (.bool false))⟩]
def o16_10 : List Opn := [⟨some 59, none, .faddr 8 (.t 2)⟩,
⟨some 60, none, .faddr 1 (.t 59)⟩,
⟨none, none, .store 1 (.t 60) (.c (.int .i64 7))⟩]
def o16_11 : List Opn := [⟨some 61, none, .load 29 true (.t 2)⟩,
⟨none, none, .store 29 (.t 4) (.t 61)⟩,
⟨some 5, none, .mov (.c (.int .i64 0))⟩]
def o16_12 : List Opn := [⟨some 62, none, .load 29 true (.t 2)⟩,
⟨none, none, .store 29 (.t 4) (.t 62)⟩,
⟨some 5, none, .mov (.c (.int .i64 7))⟩]
def o16_13 : List Opn := [⟨some 63, none, .faddr 0 (.t 6)⟩,
⟨some 64, none, .load 1 false (.t 63)⟩,
⟨some 65, none, .bin .gtr (.t 64) (.c (.int .i64 0))⟩]
def o16_14 : List Opn := [⟨some 66, none, .load 29 true (.t 2)⟩,
⟨none, none, .store 29 (.t 4) (.t 66)⟩,
⟨some 5, none, .mov (.c (.int .i64 11))⟩]
def o16_15 : List Opn := [⟨some 67, none, .faddr 2 (.t 2)⟩,
⟨some 68, none, .load 1 false (.t 67)⟩,
⟨some 69, none, .bin .geq (.t 68) (.c (.int .i64 1099511627776))⟩]
def o16_16 : List Opn := [⟨some 70, none, .load 29 true (.t 2)⟩,
⟨none, none, .store 29 (.t 4) (.t 70)⟩,
⟨some 5, none, .mov (.c (.int .i64 6))⟩]
def o16_17 : List Opn := [⟨some 71, none, .faddr 2 (.t 2)⟩,
⟨some 72, none, .load 1 false (.t 71)⟩,
⟨some 7, none, .mov (.t 72)⟩]
def o16_18 : List Opn := [⟨some 73, none, .faddr 0 (.t 3)⟩,
⟨some 74, none, .load 1 false (.t 73)⟩,
⟨some 75, none, .mov (.t 7)⟩,
⟨some 76, none, .build [.int .i64 0, .int .i64 0, .int .i64 0, .int .i64 0, .int .i64 0, .int .i64 0, .int .i64 0, .int .i64 0, .str [], .nul, .int .i64 0, .int .i64 0, .int .i64 0, .str [], .str [], .nul, .int .i64 0, .int .i64 0, .int .i64 0, .nul] [(0, 1, (.t 74)), (1, 1, (.c (.int .i64 1))), (2, 1, (.t 75))]⟩,
⟨none, none, .store 20 (.t 6) (.t 76)⟩]
def o16_19 : List Opn := [⟨some 77, none, .faddr 0 (.t 3)⟩,
⟨some 78, none, .load 1 false (.t 77)⟩,
⟨some 79, none, .eq false false [.i] (.t 78) (.c (.int .i64 5))⟩]
def o16_20 : List Opn := [⟨some 80, none, .faddr 3 (.t 3)⟩,
⟨some 81, none, .load 1 false (.t 80)⟩,
⟨some 82, none, .bin .lss (.t 81) (.c (.int .i64 1))⟩,
⟨some 83, none, .mov (.t 82)⟩,
⟨some 84, some (83, false), .faddr 3 (.t 3)⟩,
⟨some 85, some (83, false), .load 1 false (.t 84)⟩,
⟨some 86, some (83, false), .bin .gtr (.t 85) (.c (.int .i64 3))⟩,
⟨some 87, none, .pick (.t 83) (.c (.bool true)) (.t 86)⟩,
⟨some 88, none, .mov (.t 87)⟩,
⟨some 89, some (88, false), .faddr 5 (.t 3)⟩,
⟨some 90, some (88, false), .load 1 false (.t 89)⟩,
⟨some 91, some (88, false), .call 40 [(.shut, (.t 90))] [] 1910091000⟩,
⟨some 92, some (88, false), .un .not (.t 91)⟩,
⟨some 93, none, .pick (.t 88) (.c (.bool true)) (.t 92)⟩]
def o16_21 : List Opn := [⟨some 94, none, .load 29 true (.t 2)⟩,
⟨none, none, .store 29 (.t 4) (.t 94)⟩,
⟨some 5, none, .mov (.c (.int .i64 1))⟩]
def o16_22 : List Opn := [⟨some 95, none, .faddr 1 (.t 2)⟩,
⟨some 96, none, .load 1 false (.t 95)⟩,
⟨some 97, none, .faddr 3 (.t 3)⟩,
⟨some 98, none, .load 1 false (.t 97)⟩,
⟨some 99, none, .bin .sub (.t 98) (.c (.int .i64 1))⟩,
⟨some 100, none, .iaddr 3 (.t 96) (.t 99)⟩,
⟨some 101, none, .load 3 true (.t 100)⟩,
⟨some 8, none, .alloc 100008 [.int .i64 0, .nul, .bool false]⟩,
⟨none, none, .store 3 (.t 8) (.t 101)⟩]
def o16_23 : List Opn := [⟨some 102, none, .faddr 2 (.t 8)⟩,
⟨some 103, none, .load 1 false (.t 102)⟩,
⟨some 104, none, .un .not (.t 103)⟩]
def o16_24 : List Opn := [⟨some 105, none, .load 29 true (.t 2)⟩,
⟨none, none, .store 29 (.t 4) (.t 105)⟩,
⟨some 5, none, .mov (.c (.int .i64 11))⟩]
def o16_25 : List Opn := [⟨some 9, none, .mov (.c (.bool false))⟩]
def o16_26 : List Opn := [⟨some 10, none, .mov (.c (.int .i64 0))⟩]
def o16_27 : List Opn := [⟨some 126, none, .mov (.t 9)⟩,
⟨some 127, none, .un .not (.t 126)⟩]
def o16_28 : List Opn := [⟨some 128, none, .load 29 true (.t 2)⟩,
⟨none, none, .store 29 (.t 4) (.t 128)⟩,
⟨some 5, none, .mov (.c (.int .i64 9))⟩]
def o16_29 : List Opn := [⟨some 129, none, .faddr 3 (.t 3)⟩,
⟨some 130, none, .load 1 false (.t 129)⟩,
⟨some 131, none, .faddr 5 (.t 3)⟩,
⟨some 132, none, .load 1 false (.t 131)⟩,
⟨some 133, none, .faddr 5 (.t 6)⟩,
⟨none, none, .store 1 (.t 133) (.t 130)⟩,
⟨some 134, none, .faddr 19 (.t 6)⟩,
⟨none, none, .store 1 (.t 134) (.t 132)⟩]
def o16_30 : List Opn := [⟨some 135, none, .load 20 true (.t 6)⟩,
⟨some 136, none, .mov (.t 7)⟩,
⟨some 137, none, .bin .add (.t 136) (.c (.int .i64 1))⟩,
⟨some 138, none, .faddr 8 (.t 2)⟩,
⟨none, none, .store 20 (.t 138) (.t 135)⟩,
⟨some 139, none, .faddr 2 (.t 2)⟩,
⟨none, none, .store 1 (.t 139) (.t 137)⟩]
def o16_31 : List Opn := [⟨some 140, none, .load 29 true (.t 2)⟩,
⟨none, none, .store 29 (.t 4) (.t 140)⟩,
⟨some 5, none, .mov (.c (.int .i64 0))⟩]
def c16 : IFn := ⟨2, [.m 4 29 true, .t 5], [], [],
.seq (.reg o16_1)
(.seq (.reg o16_2)
(.seq (.seq (.reg o16_3)
(.cond (.t 30) (.seq (.reg o16_4)
(.ret))
(.skip)))
(.seq (.seq (.reg o16_5)
(.cond (.t 34) (.seq (.seq (.reg o16_6)
(.cond (.t 42) (.seq (.reg o16_7)
(.seq (.reg o16_8)
(.ret)))
(.skip)))
(.seq (.seq (.reg o16_9)
(.cond (.t 58) (.seq (.reg o16_10)
(.seq (.reg o16_11)
(.ret)))
(.skip)))
(.seq (.reg o16_12)
(.ret))))
(.skip)))
(.seq (.seq (.reg o16_13)
(.cond (.t 65) (.seq (.reg o16_14)
(.ret))
(.skip)))
(.seq (.seq (.reg o16_15)
(.cond (.t 69) (.seq (.reg o16_16)
(.ret))
(.skip)))
(.seq (.reg o16_17)
(.seq (.reg o16_18)
(.seq (.seq (.reg o16_19)
(.cond (.t 79) (.seq (.seq (.reg o16_20)
(.cond (.t 93) (.seq (.reg o16_21)
(.ret))
(.skip)))
(.seq (.reg o16_22)
(.seq (.seq (.reg o16_23)
(.cond (.t 104) (.seq (.reg o16_24)
(.ret))
(.skip)))
(.seq (.reg o16_25)
(.seq (.seq (.reg o16_26)
(.block 0 (.loop b16_1)))
(.seq (.seq (.reg o16_27)
(.cond (.t 127) (.seq (.reg o16_28)
(.ret))
(.skip)))
(.seq (.dreg o16_29
[(2, 5), (3, 5)])
(.seq (.reg o16_30)
(.seq (.reg o16_31)
(.ret))))))))))
(.skip)))
k16_1))))))))⟩
def ob17_1_1 : List Opn := [⟨some 22, none, .bin .lss (.t 21) (.t 20)⟩]
def ob17_1_2 : List Opn := [⟨some 23, none, .mov (.t 21)⟩,
⟨some 24, none, .iaddr 3 (.t 19) (.t 21)⟩,
⟨some 25, none, .load 3 true (.t 24)⟩,
⟨some 6, none, .alloc 100006 [.int .i64 0, .nul, .bool false]⟩,
⟨some 5, none, .mov (.t 23)⟩,
⟨none, none, .store 3 (.t 6) (.t 25)⟩]
def ob17_1_3 : List Opn := [⟨some 26, none, .faddr 2 (.t 6)⟩,
⟨some 27, none, .load 1 false (.t 26)⟩,
⟨some 28, none, .un .not (.t 27)⟩]
def ob17_1_4 : List Opn := [⟨some 29, none, .mov (.t 4)⟩,
⟨some 30, none, .faddr 1 (.t 6)⟩,
⟨some 31, none, .load 1 false (.t 30)⟩,
⟨some 32, none, .iaddr 1 (.t 31) (.c (.int .i64 0))⟩,
⟨some 33, none, .load 1 false (.t 32)⟩,
⟨some 34, none, .mov (.t 5)⟩,
⟨some 35, none, .bin .add (.t 34) (.c (.int .i64 1))⟩,
⟨some 36, none, .faddr 0 (.t 6)⟩,
⟨some 37, none, .load 1 false (.t 36)⟩,
⟨some 38, none, .faddr 1 (.t 6)⟩,
⟨some 39, none, .load 1 false (.t 38)⟩,
⟨some 40, none, .call 43 [(.shut, (.t 39))] [(0, 204000)] 910040000⟩,
⟨some 41, none, .build [.int .i64 0, .int .i64 0, .int .i64 0, .int .i64 0, .int .i64 0, .int .i64 0, .int .i64 0, .int .i64 0, .int .i64 0, .int .i64 0, .int .i64 0, .int .i64 0, .str [], .int .i64 0, .int .i64 0, .int .i64 0, .str [], .str [], .bool false, .str [], .int .i64 0, .int .i64 0, .int .i64 0, .str [], .int .i64 0, .int .i64 0, .int .i64 0, .int .i64 0, .int .i64 0, .bool false, .str [], .nul, .str [], .bool false, .nul, .nul] [(0, 1, (.c (.int .i64 33))), (2, 1, (.t 33)), (7, 1, (.t 35)), (4, 1, (.t 37)), (35, 1, (.t 40))]⟩,
⟨some 42, none, .bslice 100042 36 [(.t 41)]⟩,
⟨some 43, none, .app 100043 36 392 (.t 29) (.t 42)⟩,
⟨some 4, none, .mov (.t 43)⟩]
def ob17_1_5 : List Opn := [⟨some 44, none, .bin .add (.t 21) (.c (.int .i64 1))⟩,
⟨some 21, none, .mov (.t 44)⟩]
def b17_1 : IC := (.seq (.gh (.keep [1, 2, 4, 19, 20, 21] [100001, 100002, 300004]))
(.seq (.reg ob17_1_1)
(.seq (.cond (.t 22) (.skip)
(.exit 0))
(.seq (.block 1 (.seq (.reg ob17_1_2)
(.seq (.reg ob17_1_3)
(.cond (.t 28) (.dreg ob17_1_4
[(1, 11), (2, 11), (3, 11), (4, 11), (7, 11), (8, 11)])
(.skip)))))
(.reg ob17_1_5)))))
def ob17_2_1 : List Opn := [⟨some 64, none, .mov (.t 9)⟩,
⟨some 65, none, .bin .leq (.t 64) (.c (.int .i64 3))⟩]
def ob17_2_2 : List Opn := [⟨some 68, none, .mov (.t 4)⟩,
⟨some 69, none, .load 29 true (.t 1)⟩,
⟨some 70, none, .mov (.t 9)⟩,
⟨some 71, none, .call 57 [(.shut, (.t 69)), (.shut, (.t 70))] [] 1910071000⟩,
⟨some 72, none, .mov (.t 9)⟩,
⟨some 73, none, .load 3 true (.t 7)⟩,
⟨some 74, none, .build [.int .i64 0, .int .i64 0, .int .i64 0, .int .i64 0, .int .i64 0, .int .i64 0, .int .i64 0, .int .i64 0, .int .i64 0, .int .i64 0, .int .i64 0, .int .i64 0, .str [], .int .i64 0, .int .i64 0, .int .i64 0, .str [], .str [], .bool false, .str [], .int .i64 0, .int .i64 0, .int .i64 0, .str [], .int .i64 0, .int .i64 0, .int .i64 0, .int .i64 0, .int .i64 0, .bool false, .str [], .nul, .str [], .bool false, .nul, .nul] [(0, 1, (.c (.int .i64 30))), (2, 1, (.t 71)), (7, 1, (.t 72)), (9, 3, (.t 73))]⟩,
⟨some 75, none, .bslice 100075 36 [(.t 74)]⟩,
⟨some 76, none, .app 100076 36 392 (.t 68) (.t 75)⟩,
⟨some 4, none, .mov (.t 76)⟩]
def ob17_2_3 : List Opn := [⟨some 77, none, .faddr 5 (.t 1)⟩,
⟨some 78, none, .load 3 true (.t 77)⟩,
⟨some 79, none, .build [.int .i64 0, .int .i64 0, .int .i64 0] []⟩,
⟨some 80, none, .eq true true [.i, .i, .i] (.t 78) (.t 79)⟩]
def ob17_2_4 : List Opn := [⟨some 81, none, .mov (.t 4)⟩,
⟨some 82, none, .load 29 true (.t 1)⟩,
⟨some 83, none, .mov (.t 9)⟩,
⟨some 84, none, .call 57 [(.shut, (.t 82)), (.shut, (.t 83))] [] 2110084000⟩,
⟨some 85, none, .mov (.t 9)⟩,
⟨some 86, none, .faddr 5 (.t 1)⟩,
⟨some 87, none, .load 3 true (.t 86)⟩,
⟨some 88, none, .build [.int .i64 0, .int .i64 0, .int .i64 0, .int .i64 0, .int .i64 0, .int .i64 0, .int .i64 0, .int .i64 0, .int .i64 0, .int .i64 0, .int .i64 0, .int .i64 0, .str [], .int .i64 0, .int .i64 0, .int .i64 0, .str [], .str [], .bool false, .str [], .int .i64 0, .int .i64 0, .int .i64 0, .str [], .int .i64 0, .int .i64 0, .int .i64 0, .int .i64 0, .int .i64 0, .bool false, .str [], .nul, .str [], .bool false, .nul, .nul] [(0, 1, (.c (.int .i64 32))), (2, 1, (.t 84)), (7, 1, (.t 85)), (9, 3, (.t 87))]⟩,
⟨some 89, none, .bslice 100089 36 [(.t 88)]⟩,
⟨some 90, none, .app 100090 36 392 (.t 81) (.t 89)⟩,
⟨some 4, none, .mov (.t 90)⟩]
def ob17_2_5 : List Opn := [⟨some 66, none, .mov (.t 9)⟩,
⟨some 67, none, .bin .add (.t 66) (.c (.int .i64 1))⟩,
⟨some 9, none, .mov (.t 67)⟩]
def b17_2 : IC := (.seq (.gh (.keep [1, 2, 4, 7, 9] [100001, 100002, 100006, 100007, 100042, 100043, 100048, 204000, 300004]))
(.seq (.seq (.reg ob17_2_1)
(.cond (.t 65) (.skip)
(.exit 2)))
(.seq (.block 3 (.seq (.dreg ob17_2_2
[(3, 5)])
(.seq (.reg ob17_2_3)
(.cond (.t 80) (.dreg ob17_2_4
[(3, 5), (3, 6)])
(.skip)))))
(.reg ob17_2_5))))
def ok17_1_1 : List Opn := [⟨some 91, none, .load 29 true (.t 1)⟩,
⟨some 92, none, .mov (.t 4)⟩,
⟨none, none, .store 29 (.t 2) (.t 91)⟩,
⟨some 3, none, .mov (.t 92)⟩]
def k17_1 : IC := (.seq (.reg ok17_1_1)
(.ret))
def ok17_2_1 : List Opn := [⟨some 45, none, .mov (.t 4)⟩,
⟨some 46, none, .load 29 true (.t 1)⟩,
⟨some 47, none, .call 55 [(.shut, (.t 46))] [] 1110047000⟩,
⟨some 48, none, .app 100048 36 392 (.t 45) (.t 47)⟩,
⟨some 4, none, .mov (.t 48)⟩]
def ok17_2_2 : List Opn := [⟨some 49, none, .faddr 8 (.t 1)⟩,
⟨some 50, none, .faddr 0 (.t 49)⟩,
⟨some 51, none, .load 1 false (.t 50)⟩,
⟨some 52, none, .eq false false [.i] (.t 51) (.c (.int .i64 0))⟩]
def ok17_2_3 : List Opn := [⟨some 54, none, .faddr 3 (.t 1)⟩,
⟨some 55, none, .load 1 false (.t 54)⟩,
⟨some 56, none, .call 25 [(.shut, (.t 55))] [] 1310056000⟩,
⟨some 53, none, .mov (.t 56)⟩,
⟨some 57, none, .ext (.t 53) 0⟩,
⟨some 58, none, .ext (.t 53) 1⟩,
⟨some 7, none, .alloc 100007 [.int .i64 0, .int .i64 0, .int .i64 0]⟩,
⟨none, none, .store 3 (.t 7) (.t 57)⟩,
⟨some 8, none, .mov (.t 58)⟩]
def ok17_2_4 : List Opn := [⟨some 59, none, .mov (.t 8)⟩,
⟨some 60, none, .un .not (.t 59)⟩]
def ok17_2_5 : List Opn := [⟨some 61, none, .faddr 4 (.t 1)⟩,
⟨some 62, none, .load 1 false (.t 61)⟩,
⟨some 63, none, .call 56 [(.shut, (.t 62)), (.shut, (.c (.func 24 [])))] [] 1510063000⟩,
⟨none, none, .store 3 (.t 7) (.t 63)⟩]
def ok17_2_6 : List Opn := [⟨some 9, none, .mov (.c (.int .i64 1))⟩]
def k17_2 : IC := (.seq (.reg ok17_2_1)
(.seq (.seq (.reg ok17_2_2)
(.cond (.t 52) (.seq (.reg ok17_2_3)
(.seq (.seq (.reg ok17_2_4)
(.cond (.t 60) (.reg ok17_2_5)
(.skip)))
(.seq (.reg ok17_2_6)
(.block 2 (.seq (.gh (.room 4 300004 36))
(.loop b17_2))))))
(.skip)))
k17_1))
def o17_1 : List Opn := [⟨some 1, none, .box 100001 (.t 0)⟩,
⟨some 2, none, .alloc 100002 [.nul, .nul, .int .i64 0, .nul, .nul, .int .i64 0, .int .i64 0, .int .i64 0, .int .i64 0, .int .i64 0, .int .i64 0, .int .i64 0, .int .i64 0, .int .i64 0, .int .i64 0, .int .i64 0, .str [], .nul, .int .i64 0, .int .i64 0, .int .i64 0, .str [], .str [], .nul, .int .i64 0, .int .i64 0, .int .i64 0, .nul, .nul]⟩,
⟨some 3, none, .mov (.c (.nul))⟩]
def o17_2 : List Opn := [⟨some 10, none, .load 29 true (.t 1)⟩,
⟨some 11, none, .call 12 [(.shut, (.t 10))] [] 110011000⟩,
⟨some 12, none, .un .not (.t 11)⟩]
def o17_3 : List Opn := [⟨some 13, none, .load 29 true (.t 1)⟩,
⟨none, none, .store 29 (.t 2) (.t 13)⟩,
⟨some 3, none, .mov (.c (.nul))⟩]
def o17_4 : List Opn := [⟨some 14, none, .faddr 3 (.t 1)⟩,
⟨some 15, none, .load 1 false (.t 14)⟩,
⟨some 16, none, .call 54 [(.shut, (.t 15))] [] 310016000⟩,
⟨some 17, none, .faddr 3 (.t 1)⟩,
⟨none, none, .store 1 (.t 17) (.t 16)⟩]
def o17_5 : List Opn := [⟨some 4, none, .mov (.c (.nul))⟩]
def o17_6 : List Opn := [⟨some 18, none, .faddr 1 (.t 1)⟩,
⟨some 19, none, .load 1 false (.t 18)⟩,
⟨some 20, none, .len (.t 19)⟩,
⟨some 21, none, .mov (.c (.int .i64 0))⟩]
def c17 : IFn := ⟨1, [.m 2 29 true, .t 3], [], [],
.seq (.reg o17_1)
(.seq (.seq (.reg o17_2)
(.cond (.t 12) (.seq (.reg o17_3)
(.ret))
(.skip)))
(.seq (.reg o17_4)
(.seq (.reg o17_5)
(.seq (.seq (.reg o17_6)
(.block 0 (.seq (.gh (.room 4 300004 36))
(.loop b17_1))))
k17_2))))⟩
def ob21_1_1 : List Opn := [⟨some 73, none, .mov (.t 8)⟩,
⟨some 74, none, .bin .leq (.t 73) (.c (.int .i64 3))⟩]
def ob21_1_2 : List Opn := [⟨some 77, none, .faddr 35 (.t 7)⟩,
⟨some 78, none, .load 1 false (.t 77)⟩,
⟨some 79, none, .load 29 true (.t 2)⟩,
⟨some 80, none, .mov (.t 8)⟩,
⟨some 81, none, .call 57 [(.shut, (.t 79)), (.shut, (.t 80))] [] 1410081000⟩,
⟨some 82, none, .bslice 100082 1 [(.t 81)]⟩,
⟨some 83, none, .app 100083 1 8 (.t 78) (.t 82)⟩,
⟨some 84, none, .faddr 35 (.t 7)⟩,
⟨none, none, .store 1 (.t 84) (.t 83)⟩]
def ob21_1_3 : List Opn := [⟨some 75, none, .mov (.t 8)⟩,
⟨some 76, none, .bin .add (.t 75) (.c (.int .i64 1))⟩,
⟨some 8, none, .mov (.t 76)⟩]
def b21_1 : IC := (.seq (.gh (.keep [2, 4, 7, 8] [100002, 100003, 100004, 100007, 207100, 400735]))
(.seq (.seq (.reg ob21_1_1)
(.cond (.t 74) (.skip)
(.exit 1)))
(.seq (.block 2 (.dreg ob21_1_2
[(0, 4), (1, 4), (0, 5), (1, 5)]))
(.reg ob21_1_3))))
def o21_1 : List Opn := [⟨some 2, none, .box 100002 (.t 0)⟩,
⟨some 3, none, .box 100003 (.t 1)⟩,
⟨some 4, none, .alloc 100004 [.nul, .nul, .int .i64 0, .nul, .nul, .int .i64 0, .int .i64 0, .int .i64 0, .int .i64 0, .int .i64 0, .int .i64 0, .int .i64 0, .int .i64 0, .int .i64 0, .int .i64 0, .int .i64 0, .str [], .nul, .int .i64 0, .int .i64 0, .int .i64 0, .str [], .str [], .nul, .int .i64 0, .int .i64 0, .int .i64 0, .nul, .nul]⟩,
⟨some 5, none, .mov (.c (.nul))⟩]
def o21_2 : List Opn := [⟨some 13, none, .load 29 true (.t 2)⟩,
⟨some 14, none, .call 12 [(.shut, (.t 13))] [] 110014000⟩,
⟨some 15, none, .un .not (.t 14)⟩,
⟨some 16, none, .mov (.t 15)⟩,
⟨some 17, some (16, false), .load 36 true (.t 3)⟩,
⟨some 18, some (16, false), .call 22 [(.shut, (.t 17))] [] 110018000⟩,
⟨some 19, some (16, false), .un .not (.t 18)⟩,
⟨some 20, none, .pick (.t 16) (.c (.bool true)) (.t 19)⟩,
⟨some 21, none, .mov (.t 20)⟩,
⟨some 22, some (21, false), .faddr 2 (.t 3)⟩,
⟨some 23, some (21, false), .load 1 false (.t 22)⟩,
⟨some 24, some (21, false), .eq true false [.i] (.t 23) (.c (.int .i64 0))⟩,
⟨some 25, none, .pick (.t 21) (.c (.bool true)) (.t 24)⟩]
def o21_3 : List Opn := [⟨some 26, none, .load 29 true (.t 2)⟩,
⟨none, none, .store 29 (.t 4) (.t 26)⟩,
⟨some 5, none, .mov (.c (.nul))⟩]
def o21_4 : List Opn := [⟨some 27, none, .faddr 7 (.t 3)⟩,
⟨some 28, none, .load 1 false (.t 27)⟩,
⟨some 29, none, .bin .geq (.t 28) (.c (.int .i64 1))⟩,
⟨some 30, none, .mov (.t 29)⟩,
⟨some 31, some (30, true), .faddr 7 (.t 3)⟩,
⟨some 32, some (30, true), .load 1 false (.t 31)⟩,
⟨some 33, some (30, true), .bin .leq (.t 32) (.c (.int .i64 3))⟩,
⟨some 34, none, .pick (.t 30) (.t 33) (.c (.bool false))⟩,
⟨some 6, none, .mov (.t 34)⟩]
def o21_5 : List Opn := [⟨some 35, none, .faddr 0 (.t 3)⟩,
⟨some 36, none, .load 1 false (.t 35)⟩]
def o21_6 : List Opn := [⟨some 66, none, .eq false false [.i] (.t 36) (.c (.int .i64 3))⟩,
⟨some 65, none, .mov (.t 66)⟩]
def o21_7 : List Opn := [⟨some 67, none, .faddr 1 (.t 3)⟩,
⟨some 68, none, .load 1 false (.t 67)⟩,
⟨some 69, none, .faddr 0 (.t 2)⟩,
⟨some 70, none, .load 1 false (.t 69)⟩,
⟨some 71, none, .call 64 [(.shut, (.t 70))] [(0, 207100)] 1010071000⟩,
⟨some 72, none, .build [.int .i64 0, .int .i64 0, .int .i64 0, .int .i64 0, .int .i64 0, .int .i64 0, .int .i64 0, .int .i64 0, .int .i64 0, .int .i64 0, .int .i64 0, .int .i64 0, .str [], .int .i64 0, .int .i64 0, .int .i64 0, .str [], .str [], .bool false, .str [], .int .i64 0, .int .i64 0, .int .i64 0, .str [], .int .i64 0, .int .i64 0, .int .i64 0, .int .i64 0, .int .i64 0, .bool false, .str [], .nul, .str [], .bool false, .nul, .nul] [(0, 1, (.c (.int .i64 4))), (2, 1, (.t 68)), (34, 1, (.t 71))]⟩,
⟨some 7, none, .alloc 100007 [.int .i64 0, .int .i64 0, .int .i64 0, .int .i64 0, .int .i64 0, .int .i64 0, .int .i64 0, .int .i64 0, .int .i64 0, .int .i64 0, .int .i64 0, .int .i64 0, .str [], .int .i64 0, .int .i64 0, .int .i64 0, .str [], .str [], .bool false, .str [], .int .i64 0, .int .i64 0, .int .i64 0, .str [], .int .i64 0, .int .i64 0, .int .i64 0, .int .i64 0, .int .i64 0, .bool false, .str [], .nul, .str [], .bool false, .nul, .nul]⟩,
⟨none, none, .store 36 (.t 7) (.t 72)⟩]
def o21_8 : List Opn := [⟨some 8, none, .mov (.c (.int .i64 1))⟩]
def o21_9 : List Opn := [⟨some 85, none, .load 29 true (.t 2)⟩,
⟨some 86, none, .load 36 true (.t 7)⟩,
⟨some 87, none, .bslice 100087 36 [(.t 86)]⟩,
⟨none, none, .store 29 (.t 4) (.t 85)⟩,
⟨some 5, none, .mov (.t 87)⟩]
def o21_10 : List Opn := [⟨some 89, none, .eq false false [.i] (.t 36) (.c (.int .i64 7))⟩,
⟨some 88, none, .mov (.t 89)⟩]
def o21_11 : List Opn := [⟨some 91, none, .faddr 3 (.t 2)⟩,
⟨some 92, none, .load 1 false (.t 91)⟩,
⟨some 93, none, .faddr 6 (.t 3)⟩,
⟨some 94, none, .load 1 false (.t 93)⟩,
⟨some 95, none, .call 65 [(.shut, (.t 92)), (.shut, (.t 94))] [] 1710095000⟩,
⟨some 90, none, .mov (.t 95)⟩,
⟨some 96, none, .ext (.t 90) 0⟩,
⟨some 97, none, .ext (.t 90) 1⟩,
⟨some 9, none, .mov (.t 96)⟩,
⟨some 10, none, .mov (.t 97)⟩]
def o21_12 : List Opn := [⟨some 98, none, .mov (.t 10)⟩,
⟨some 99, none, .eq false false [.i] (.t 98) (.c (.int .i64 0))⟩]
def o21_13 : List Opn := [⟨some 100, none, .mov (.t 9)⟩,
⟨some 101, none, .faddr 3 (.t 2)⟩,
⟨none, none, .store 1 (.t 101) (.t 100)⟩]
def o21_14 : List Opn := [⟨some 103, none, .eq false false [.i] (.t 36) (.c (.int .i64 31))⟩,
⟨some 102, none, .mov (.t 103)⟩]
def o21_15 : List Opn := [⟨some 104, none, .mov (.t 6)⟩]
def o21_16 : List Opn := [⟨some 105, none, .load 29 true (.t 2)⟩,
⟨some 106, none, .load 36 true (.t 3)⟩,
⟨some 107, none, .call 66 [(.shut, (.t 105)), (.shut, (.t 106))] [] 2210107000⟩,
⟨none, none, .store 29 (.t 4) (.t 107)⟩,
⟨some 5, none, .mov (.c (.nul))⟩]
def o21_17 : List Opn := [⟨some 109, none, .eq false false [.i] (.t 36) (.c (.int .i64 34))⟩,
⟨some 108, none, .mov (.t 109)⟩]
def o21_18 : List Opn := [⟨some 110, none, .mov (.t 6)⟩]
def o21_19 : List Opn := [⟨some 111, none, .load 29 true (.t 2)⟩,
⟨some 112, none, .load 36 true (.t 3)⟩,
⟨some 113, none, .call 67 [(.shut, (.t 111)), (.shut, (.t 112))] [] 2510113000⟩,
⟨none, none, .store 29 (.t 4) (.t 113)⟩,
⟨some 5, none, .mov (.c (.nul))⟩]
def o21_20 : List Opn := [⟨some 115, none, .eq false false [.i] (.t 36) (.c (.int .i64 5))⟩,
⟨some 114, none, .mov (.t 115)⟩]
def o21_21 : List Opn := [⟨some 116, none, .load 29 true (.t 2)⟩,
⟨some 117, none, .load 36 true (.t 3)⟩,
⟨some 118, none, .call 68 [(.shut, (.t 116)), (.shut, (.t 117))] [] 2710118000⟩,
⟨some 119, none, .ext (.t 118) 0⟩,
⟨some 120, none, .ext (.t 118) 1⟩,
⟨none, none, .store 29 (.t 4) (.t 119)⟩,
⟨some 5, none, .mov (.t 120)⟩]
def o21_22 : List Opn := [⟨some 122, none, .eq false false [.i] (.t 36) (.c (.int .i64 9))⟩,
⟨some 121, none, .mov (.t 122)⟩]
def o21_23 : List Opn := [⟨some 123, none, .eq false false [.i] (.t 36) (.c (.int .i64 11))⟩,
⟨some 121, none, .mov (.t 123)⟩]
def o21_24 : List Opn := [⟨some 124, none, .faddr 8 (.t 2)⟩,
⟨some 125, none, .faddr 0 (.t 124)⟩,
⟨some 126, none, .load 1 false (.t 125)⟩,
⟨some 127, none, .eq false false [.i] (.t 126) (.c (.int .i64 4))⟩,
⟨some 128, none, .mov (.t 127)⟩,
⟨some 129, some (128, true), .faddr 8 (.t 2)⟩,
⟨some 130, some (128, true), .faddr 2 (.t 129)⟩,
⟨some 131, some (128, true), .load 1 false (.t 130)⟩,
⟨some 132, some (128, true), .faddr 6 (.t 3)⟩,
⟨some 133, some (128, true), .load 1 false (.t 132)⟩,
⟨some 134, some (128, true), .eq false false [.i] (.t 131) (.t 133)⟩,
⟨some 135, none, .pick (.t 128) (.t 134) (.c (.bool false))⟩]
def o21_25 : List Opn := [⟨some 136, none, .load 29 true (.t 2)⟩,
⟨some 137, none, .load 36 true (.t 3)⟩,
⟨some 138, none, .call 69 [(.shut, (.t 136)), (.shut, (.t 137))] [] 3110138000⟩,
⟨some 139, none, .ext (.t 138) 0⟩,
⟨some 140, none, .ext (.t 138) 1⟩,
⟨none, none, .store 29 (.t 4) (.t 139)⟩,
⟨some 5, none, .mov (.t 140)⟩]
def o21_26 : List Opn := [⟨some 37, none, .faddr 8 (.t 2)⟩,
⟨some 38, none, .faddr 0 (.t 37)⟩,
⟨some 39, none, .load 1 false (.t 38)⟩,
⟨some 40, none, .bin .geq (.t 39) (.c (.int .i64 1))⟩,
⟨some 41, none, .mov (.t 40)⟩,
⟨some 42, some (41, true), .faddr 8 (.t 2)⟩,
⟨some 43, some (41, true), .faddr 0 (.t 42)⟩,
⟨some 44, some (41, true), .load 1 false (.t 43)⟩,
⟨some 45, some (41, true), .bin .leq (.t 44) (.c (.int .i64 3))⟩,
⟨some 46, none, .pick (.t 41) (.t 45) (.c (.bool false))⟩,
⟨some 47, none, .mov (.t 46)⟩,
⟨some 48, some (47, true), .faddr 8 (.t 2)⟩,
⟨some 49, some (47, true), .faddr 2 (.t 48)⟩,
⟨some 50, some (47, true), .load 1 false (.t 49)⟩,
⟨some 51, some (47, true), .faddr 5 (.t 3)⟩,
⟨some 52, some (47, true), .load 1 false (.t 51)⟩,
⟨some 53, some (47, true), .eq false false [.i] (.t 50) (.t 52)⟩,
⟨some 54, none, .pick (.t 47) (.t 53) (.c (.bool false))⟩]
def o21_27 : List Opn := [⟨some 56, none, .load 29 true (.t 2)⟩,
⟨some 57, none, .load 36 true (.t 3)⟩,
⟨some 58, none, .call 70 [(.shut, (.t 56)), (.shut, (.t 57))] [] 610058000⟩,
⟨some 55, none, .mov (.t 58)⟩,
⟨some 59, none, .ext (.t 55) 0⟩,
⟨some 60, none, .ext (.t 55) 1⟩,
⟨some 11, none, .alloc 100011 [.nul, .nul, .int .i64 0, .nul, .nul, .int .i64 0, .int .i64 0, .int .i64 0, .int .i64 0, .int .i64 0, .int .i64 0, .int .i64 0, .int .i64 0, .int .i64 0, .int .i64 0, .int .i64 0, .str [], .nul, .int .i64 0, .int .i64 0, .int .i64 0, .str [], .str [], .nul, .int .i64 0, .int .i64 0, .int .i64 0, .nul, .nul]⟩,
⟨none, none, .store 29 (.t 11) (.t 59)⟩,
⟨some 12, none, .mov (.t 60)⟩]
def o21_28 : List Opn := [⟨some 61, none, .mov (.t 12)⟩]
def o21_29 : List Opn := [⟨some 62, none, .load 29 true (.t 11)⟩,
⟨some 63, none, .load 29 true (.t 11)⟩,
⟨some 64, none, .call 55 [(.shut, (.t 63))] [] 810064000⟩,
⟨none, none, .store 29 (.t 4) (.t 62)⟩,
⟨some 5, none, .mov (.t 64)⟩]
def o21_30 : List Opn := [⟨some 141, none, .load 29 true (.t 2)⟩,
⟨none, none, .store 29 (.t 4) (.t 141)⟩,
⟨some 5, none, .mov (.c (.nul))⟩]
def c21 : IFn := ⟨2, [.m 4 29 true, .t 5], [], [],
.seq (.reg o21_1)
(.seq (.seq (.reg o21_2)
(.cond (.t 25) (.seq (.reg o21_3)
(.ret))
(.skip)))
(.seq (.reg o21_4)
(.seq (.seq (.reg o21_5)
(.block 0 (.seq (.reg o21_6)
(.cond (.t 65) (.seq (.dreg o21_7
[(0, 4), (1, 4), (0, 6), (1, 6), (2, 6), (3, 6), (4, 6)])
(.seq (.seq (.reg o21_8)
(.block 1 (.seq (.gh (.roomC 100007 35 400735 1))
(.loop b21_1))))
(.seq (.dreg o21_9
[(0, 2), (1, 3), (2, 3)])
(.ret))))
(.seq (.reg o21_10)
(.cond (.t 88) (.seq (.reg o21_11)
(.seq (.reg o21_12)
(.cond (.t 99) (.reg o21_13)
(.skip))))
(.seq (.reg o21_14)
(.cond (.t 102) (.seq (.reg o21_15)
(.cond (.t 104) (.seq (.reg o21_16)
(.ret))
(.skip)))
(.seq (.reg o21_17)
(.cond (.t 108) (.seq (.reg o21_18)
(.cond (.t 110) (.seq (.reg o21_19)
(.ret))
(.skip)))
(.seq (.reg o21_20)
(.cond (.t 114) (.seq (.reg o21_21)
(.ret))
(.seq (.seq (.reg o21_22)
(.cond (.t 121) (.skip)
(.reg o21_23)))
(.cond (.t 121) (.seq (.reg o21_24)
(.cond (.t 135) (.seq (.reg o21_25)
(.ret))
(.skip)))
(.seq (.reg o21_26)
(.cond (.t 54) (.seq (.reg o21_27)
(.seq (.reg o21_28)
(.cond (.t 61) (.seq (.dreg o21_29
[(0, 2)])
(.ret))
(.skip))))
(.skip)))))))))))))))))
(.seq (.reg o21_30)
(.ret)))))⟩
def o22_1 : List Opn := [⟨some 1, none, .box 100001 (.t 0)⟩,
⟨some 2, none, .mov (.c (.bool false))⟩]
def o22_2 : List Opn := [⟨some 3, none, .faddr 0 (.t 1)⟩,
⟨some 4, none, .load 1 false (.t 3)⟩,
⟨some 5, none, .bin .lss (.t 4) (.c (.int .i64 1))⟩,
⟨some 6, none, .mov (.t 5)⟩,
⟨some 7, some (6, false), .faddr 0 (.t 1)⟩,
⟨some 8, some (6, false), .load 1 false (.t 7)⟩,
⟨some 9, some (6, false), .bin .gtr (.t 8) (.c (.int .i64 37))⟩,
⟨some 10, none, .pick (.t 6) (.c (.bool true)) (.t 9)⟩,
⟨some 11, none, .mov (.t 10)⟩,
⟨some 12, some (11, false), .faddr 25 (.t 1)⟩,
⟨some 13, some (11, false), .faddr 0 (.t 12)⟩,
⟨some 14, some (11, false), .load 1 false (.t 13)⟩,
⟨some 15, some (11, false), .bin .lss (.t 14) (.c (.int .i64 0))⟩,
⟨some 16, none, .pick (.t 11) (.c (.bool true)) (.t 15)⟩,
⟨some 17, none, .mov (.t 16)⟩,
⟨some 18, some (17, false), .faddr 25 (.t 1)⟩,
⟨some 19, some (17, false), .faddr 0 (.t 18)⟩,
⟨some 20, some (17, false), .load 1 false (.t 19)⟩,
⟨some 21, some (17, false), .bin .gtr (.t 20) (.c (.int .i64 16))⟩,
⟨some 22, none, .pick (.t 17) (.c (.bool true)) (.t 21)⟩,
⟨some 23, none, .mov (.t 22)⟩,
⟨some 24, some (23, false), .faddr 25 (.t 1)⟩,
⟨some 25, some (23, false), .faddr 6 (.t 24)⟩,
⟨some 26, some (23, false), .load 1 false (.t 25)⟩,
⟨some 27, some (23, false), .len (.t 26)⟩,
⟨some 28, some (23, false), .bin .gtr (.t 27) (.c (.int .i64 8))⟩,
⟨some 29, none, .pick (.t 23) (.c (.bool true)) (.t 28)⟩,
⟨some 30, none, .mov (.t 29)⟩,
⟨some 31, some (30, false), .faddr 34 (.t 1)⟩,
⟨some 32, some (30, false), .load 1 false (.t 31)⟩,
⟨some 33, some (30, false), .len (.t 32)⟩,
⟨some 34, some (30, false), .bin .gtr (.t 33) (.c (.int .i64 8))⟩,
⟨some 35, none, .pick (.t 30) (.c (.bool true)) (.t 34)⟩,
⟨some 36, none, .mov (.t 35)⟩,
⟨some 37, some (36, false), .faddr 35 (.t 1)⟩,
⟨some 38, some (36, false), .load 1 false (.t 37)⟩,
⟨some 39, some (36, false), .len (.t 38)⟩,
⟨some 40, some (36, false), .bin .gtr (.t 39) (.c (.int .i64 8))⟩,
⟨some 41, none, .pick (.t 36) (.c (.bool true)) (.t 40)⟩]
def o22_3 : List Opn := [⟨some 2, none, .mov (.c (.bool false))⟩]
def o22_4 : List Opn := [⟨some 42, none, .load 36 true (.t 1)⟩,
⟨some 43, none, .call 72 [(.shut, (.t 42))] [] 310043000⟩,
⟨some 44, none, .call 71 [(.shut, (.t 43)), (.shut, (.c (.func 73 [])))] [] 310044000⟩]
def o22_5 : List Opn := [⟨some 2, none, .mov (.c (.bool false))⟩]
def o22_6 : List Opn := [⟨some 45, none, .faddr 9 (.t 1)⟩,
⟨some 46, none, .load 3 true (.t 45)⟩,
⟨some 47, none, .call 31 [(.shut, (.t 46))] [] 510047000⟩,
⟨some 48, none, .mov (.t 47)⟩,
⟨some 49, some (48, true), .faddr 13 (.t 1)⟩,
⟨some 50, some (48, true), .faddr 7 (.t 49)⟩,
⟨some 51, some (48, true), .load 3 true (.t 50)⟩,
⟨some 52, some (48, true), .call 31 [(.shut, (.t 51))] [] 510052000⟩,
⟨some 53, none, .pick (.t 48) (.t 52) (.c (.bool false))⟩,
⟨some 54, none, .mov (.t 53)⟩,
⟨some 55, some (54, true), .faddr 25 (.t 1)⟩,
⟨some 56, some (54, true), .faddr 1 (.t 55)⟩,
⟨some 57, some (54, true), .load 3 true (.t 56)⟩,
⟨some 58, some (54, true), .call 31 [(.shut, (.t 57))] [] 510058000⟩,
⟨some 59, none, .pick (.t 54) (.t 58) (.c (.bool false))⟩,
⟨some 2, none, .mov (.t 59)⟩]
def c22 : IFn := ⟨1, [.t 2], [], [],
.seq (.reg o22_1)
(.seq (.seq (.reg o22_2)
(.cond (.t 41) (.seq (.reg o22_3)
(.ret))
(.skip)))
(.seq (.seq (.reg o22_4)
(.cond (.t 44) (.seq (.reg o22_5)
(.ret))
(.skip)))
(.seq (.reg o22_6)
(.ret))))⟩
def o24_1 : List Opn := [⟨some 2, none, .box 100002 (.t 0)⟩,
⟨some 3, none, .box 100003 (.t 1)⟩,
⟨some 4, none, .mov (.c (.int .i64 0))⟩]
def o24_2 : List Opn := [⟨some 5, none, .faddr 0 (.t 2)⟩,
⟨some 6, none, .load 1 false (.t 5)⟩,
⟨some 7, none, .faddr 0 (.t 3)⟩,
⟨some 8, none, .load 1 false (.t 7)⟩,
⟨some 9, none, .call 75 [(.shut, (.t 6)), (.shut, (.t 8))] [] 110009000⟩,
⟨some 10, none, .faddr 1 (.t 2)⟩,
⟨some 11, none, .load 1 false (.t 10)⟩,
⟨some 12, none, .faddr 1 (.t 3)⟩,
⟨some 13, none, .load 1 false (.t 12)⟩,
⟨some 14, none, .call 75 [(.shut, (.t 11)), (.shut, (.t 13))] [] 110014000⟩,
⟨some 15, none, .faddr 2 (.t 2)⟩,
⟨some 16, none, .load 1 false (.t 15)⟩,
⟨some 17, none, .faddr 2 (.t 3)⟩,
⟨some 18, none, .load 1 false (.t 17)⟩,
⟨some 19, none, .call 75 [(.shut, (.t 16)), (.shut, (.t 18))] [] 110019000⟩,
⟨some 20, none, .bslice 100020 1 [(.t 9), (.t 14), (.t 19)]⟩,
⟨some 21, none, .call 74 [(.shut, (.t 20))] [] 110021000⟩,
⟨some 4, none, .mov (.t 21)⟩]
def c24 : IFn := ⟨2, [.t 4], [], [],
.seq (.reg o24_1)
(.seq (.dreg o24_2
[(4, 5), (4, 6), (4, 7), (4, 8), (4, 10), (9, 10), (4, 11), (9, 11), (4, 12), (9, 12), (4, 13), (9, 13)])
(.ret))⟩
def ob25_1_1 : List Opn := [⟨some 23, none, .bin .lss (.t 22) (.t 21)⟩]
def ob25_1_2 : List Opn := [⟨some 24, none, .iaddr 5 (.t 20) (.t 22)⟩,
⟨some 25, none, .load 5 true (.t 24)⟩,
⟨some 6, none, .alloc 100006 [.int .i64 0, .int .i64 0, .int .i64 0, .int .i64 0, .int .i64 0]⟩,
⟨none, none, .store 5 (.t 6) (.t 25)⟩]
def ob25_1_3 : List Opn := [⟨some 26, none, .load 3 true (.t 4)⟩,
⟨some 27, none, .faddr 2 (.t 6)⟩,
⟨some 28, none, .load 3 true (.t 27)⟩,
⟨some 29, none, .call 76 [(.shut, (.t 26)), (.shut, (.t 28))] [] 710029000⟩,
⟨none, none, .store 3 (.t 4) (.t 29)⟩]
def ob25_1_4 : List Opn := [⟨some 30, none, .bin .add (.t 22) (.c (.int .i64 1))⟩,
⟨some 22, none, .mov (.t 30)⟩]
def b25_1 : IC := (.seq (.gh (.keep [2, 4, 20, 21, 22] [100002, 100004]))
(.seq (.reg ob25_1_1)
(.seq (.cond (.t 23) (.skip)
(.exit 0))
(.seq (.block 1 (.seq (.reg ob25_1_2)
(.reg ob25_1_3)))
(.reg ob25_1_4)))))
def o25_1 : List Opn := [⟨some 2, none, .alloc 100002 [.int .i64 0, .int .i64 0, .int .i64 0]⟩,
⟨some 3, none, .mov (.c (.bool false))⟩]
def o25_2 : List Opn := [⟨some 7, none, .mov (.t 0)⟩,
⟨some 8, none, .call 30 [(.shut, (.t 7))] [] 110008000⟩,
⟨some 9, none, .un .not (.t 8)⟩,
⟨some 10, none, .mov (.t 9)⟩,
⟨some 11, some (10, false), .mov (.t 0)⟩,
⟨some 12, some (10, false), .len (.t 11)⟩,
⟨some 13, some (10, false), .eq false false [.i] (.t 12) (.c (.int .i64 0))⟩,
⟨some 14, none, .pick (.t 10) (.c (.bool true)) (.t 13)⟩]
def o25_3 : List Opn := [⟨some 15, none, .build [.int .i64 0, .int .i64 0, .int .i64 0] []⟩,
⟨none, none, .store 3 (.t 2) (.t 15)⟩,
⟨some 3, none, .mov (.c (.bool false))⟩]
def o25_4 : List Opn := [⟨some 16, none, .mov (.t 0)⟩,
⟨some 17, none, .iaddr 5 (.t 16) (.c (.int .i64 0))⟩,
⟨some 18, none, .faddr 2 (.t 17)⟩,
⟨some 19, none, .load 3 true (.t 18)⟩,
⟨some 4, none, .alloc 100004 [.int .i64 0, .int .i64 0, .int .i64 0]⟩,
⟨none, none, .store 3 (.t 4) (.t 19)⟩]
def o25_5 : List Opn := [⟨some 20, none, .mov (.t 0)⟩,
⟨some 21, none, .len (.t 20)⟩,
⟨some 22, none, .mov (.c (.int .i64 0))⟩]
def o25_6 : List Opn := [⟨some 31, none, .load 3 true (.t 4)⟩,
⟨none, none, .store 3 (.t 2) (.t 31)⟩,
⟨some 3, none, .mov (.c (.bool true))⟩]
def c25 : IFn := ⟨1, [.m 2 3 true, .t 3], [], [],
.seq (.reg o25_1)
(.seq (.seq (.reg o25_2)
(.cond (.t 14) (.seq (.reg o25_3)
(.ret))
(.skip)))
(.seq (.reg o25_4)
(.seq (.seq (.reg o25_5)
(.block 0 (.loop b25_1)))
(.seq (.reg o25_6)
(.ret)))))⟩
def ob26_1_1 : List Opn := [⟨some 4, none, .mov (.t 3)⟩,
⟨some 5, none, .mov (.t 0)⟩,
⟨some 6, none, .len (.t 5)⟩,
⟨some 7, none, .bin .lss (.t 4) (.t 6)⟩]
def ob26_1_2 : List Opn := [⟨some 10, none, .mov (.t 0)⟩,
⟨some 11, none, .mov (.t 3)⟩,
⟨some 12, none, .iaddr 3 (.t 10) (.t 11)⟩,
⟨some 13, none, .faddr 1 (.t 12)⟩,
⟨some 14, none, .load 1 false (.t 13)⟩,
⟨some 15, none, .len (.t 14)⟩,
⟨some 16, none, .bin .gtr (.t 15) (.c (.int .i64 40))⟩]
def ob26_1_3 : List Opn := [⟨some 2, none, .mov (.c (.bool false))⟩]
def ob26_1_4 : List Opn := [⟨some 8, none, .mov (.t 3)⟩,
⟨some 9, none, .bin .add (.t 8) (.c (.int .i64 1))⟩,
⟨some 3, none, .mov (.t 9)⟩]
def b26_1 : IC := (.seq (.gh (.keep [0, 3] []))
(.seq (.seq (.reg ob26_1_1)
(.cond (.t 7) (.skip)
(.exit 0)))
(.seq (.block 1 (.seq (.reg ob26_1_2)
(.cond (.t 16) (.seq (.reg ob26_1_3)
(.ret))
(.skip))))
(.reg ob26_1_4))))
def o26_1 : List Opn := [⟨some 2, none, .mov (.c (.bool false))⟩]
def o26_2 : List Opn := [⟨some 3, none, .mov (.c (.int .i64 0))⟩]
def o26_3 : List Opn := [⟨some 2, none, .mov (.c (.bool true))⟩]
def c26 : IFn := ⟨1, [.t 2], [], [],
.seq (.reg o26_1)
(.seq (.seq (.reg o26_2)
(.block 0 (.loop b26_1)))
(.seq (.reg o26_3)
(.ret)))⟩
def o27_1 : List Opn := [⟨some 0, none, .mov (.c (.nul))⟩]
def o27_2 : List Opn := [⟨some 1, none, .build [.str [], .str [], .int .i64 0, .int .i64 0, .int .i64 0] [(2, 1, (.c (.int .i64 1))), (3, 1, (.c (.int .i64 1))), (4, 1, (.c (.int .i64 1)))]⟩,
⟨some 2, none, .bslice 100002 5 [(.t 1)]⟩,
⟨some 0, none, .mov (.t 2)⟩]
def c27 : IFn := ⟨0, [.t 0], [], [],
.seq (.reg o27_1)
(.seq (.reg o27_2)
(.ret))⟩
def o28_1 : List Opn := [⟨some 2, none, .mov (.c (.nul))⟩]
def o28_2 : List Opn := [⟨some 3, none, .mov (.t 0)⟩,
⟨some 4, none, .call 77 [(.shut, (.t 3))] [] 110004000⟩,
⟨some 5, none, .un .not (.t 4)⟩]
def o28_3 : List Opn := [⟨some 2, none, .mov (.c (.nul))⟩]
def o28_4 : List Opn := [⟨some 6, none, .mov (.t 0)⟩,
⟨some 7, none, .mov (.t 0)⟩,
⟨some 8, none, .bin .rem (.t 7) (.c (.int .i64 3))⟩,
⟨some 9, none, .bin .add (.t 8) (.c (.int .i64 1))⟩,
⟨some 10, none, .bslice 100010 1 [(.t 6), (.t 9)]⟩,
⟨some 2, none, .mov (.t 10)⟩]
def c28 : IFn := ⟨1, [.t 2], [], [],
.seq (.reg o28_1)
(.seq (.seq (.reg o28_2)
(.cond (.t 5) (.seq (.reg o28_3)
(.ret))
(.skip)))
(.seq (.reg o28_4)
(.ret)))⟩
def ob29_1_1 : List Opn := [⟨some 12, none, .bin .lss (.t 11) (.t 10)⟩]
def ob29_1_2 : List Opn := [⟨some 13, none, .mov (.t 11)⟩,
⟨some 14, none, .iaddr 5 (.t 9) (.t 11)⟩,
⟨some 15, none, .load 5 true (.t 14)⟩,
⟨some 5, none, .alloc 100005 [.str [], .str [], .int .i64 0, .int .i64 0, .int .i64 0]⟩,
⟨some 4, none, .mov (.t 13)⟩,
⟨none, none, .store 5 (.t 5) (.t 15)⟩]
def ob29_1_3 : List Opn := [⟨some 16, none, .faddr 2 (.t 5)⟩,
⟨some 17, none, .load 1 false (.t 16)⟩,
⟨some 18, none, .call 78 [(.shut, (.t 17))] [] 710018000⟩,
⟨some 19, none, .un .not (.t 18)⟩,
⟨some 20, none, .mov (.t 19)⟩,
⟨some 21, some (20, false), .faddr 4 (.t 5)⟩,
⟨some 22, some (20, false), .load 1 false (.t 21)⟩,
⟨some 23, some (20, false), .call 78 [(.shut, (.t 22))] [] 710023000⟩,
⟨some 24, some (20, false), .un .not (.t 23)⟩,
⟨some 25, none, .pick (.t 20) (.c (.bool true)) (.t 24)⟩,
⟨some 26, none, .mov (.t 25)⟩,
⟨some 27, some (26, false), .faddr 3 (.t 5)⟩,
⟨some 28, some (26, false), .load 1 false (.t 27)⟩,
⟨some 29, some (26, false), .call 79 [(.shut, (.t 28))] [] 710029000⟩,
⟨some 30, some (26, false), .un .not (.t 29)⟩,
⟨some 31, none, .pick (.t 26) (.c (.bool true)) (.t 30)⟩]
def ob29_1_4 : List Opn := [⟨some 2, none, .mov (.c (.bool false))⟩]
def ob29_1_5 : List Opn := [⟨some 32, none, .mov (.t 0)⟩,
⟨some 33, none, .mov (.t 4)⟩,
⟨some 34, none, .slc 5 (.t 32) none (some (.t 33)) none⟩,
⟨some 35, none, .mkf 81 [(.t 5)]⟩,
⟨some 36, none, .call 80 [(.shut, (.t 34)), (.shut, (.t 35))] [] 910036000⟩]
def ob29_1_6 : List Opn := [⟨some 2, none, .mov (.c (.bool false))⟩]
def ob29_1_7 : List Opn := [⟨some 37, none, .mov (.t 3)⟩,
⟨some 38, none, .faddr 0 (.t 5)⟩,
⟨some 39, none, .load 2 true (.t 38)⟩,
⟨some 40, none, .bslice 100040 2 [(.t 39)]⟩,
⟨some 41, none, .app 100041 2 32 (.t 37) (.t 40)⟩,
⟨some 3, none, .mov (.t 41)⟩]
def ob29_1_8 : List Opn := [⟨some 42, none, .bin .add (.t 11) (.c (.int .i64 1))⟩,
⟨some 11, none, .mov (.t 42)⟩]
def b29_1 : IC := (.seq (.gh (.keep [0, 3, 9, 10, 11] [300003]))
(.seq (.reg ob29_1_1)
(.seq (.cond (.t 12) (.skip)
(.exit 0))
(.seq (.block 1 (.seq (.reg ob29_1_2)
(.seq (.seq (.reg ob29_1_3)
(.cond (.t 31) (.seq (.reg ob29_1_4)
(.ret))
(.skip)))
(.seq (.seq (.reg ob29_1_5)
(.cond (.t 36) (.seq (.reg ob29_1_6)
(.ret))
(.skip)))
(.reg ob29_1_7)))))
(.reg ob29_1_8)))))
def o29_1 : List Opn := [⟨some 2, none, .mov (.c (.bool false))⟩]
def o29_2 : List Opn := [⟨some 6, none, .mov (.t 0)⟩,
⟨some 7, none, .len (.t 6)⟩,
⟨some 8, none, .bin .gtr (.t 7) (.c (.int .i64 8))⟩]
def o29_3 : List Opn := [⟨some 2, none, .mov (.c (.bool false))⟩]
def o29_4 : List Opn := [⟨some 3, none, .mov (.c (.nul))⟩]
def o29_5 : List Opn := [⟨some 9, none, .mov (.t 0)⟩,
⟨some 10, none, .len (.t 9)⟩,
⟨some 11, none, .mov (.c (.int .i64 0))⟩]
def o29_6 : List Opn := [⟨some 43, none, .mov (.t 3)⟩,
⟨some 44, none, .call 82 [(.shut, (.t 43))] [] 1310044000⟩,
⟨some 2, none, .mov (.t 44)⟩]
def c29 : IFn := ⟨1, [.t 2], [], [],
.seq (.reg o29_1)
(.seq (.seq (.reg o29_2)
(.cond (.t 8) (.seq (.reg o29_3)
(.ret))
(.skip)))
(.seq (.reg o29_4)
(.seq (.seq (.reg o29_5)
(.block 0 (.seq (.gh (.room 3 300003 2))
(.loop b29_1))))
(.seq (.reg o29_6)
(.ret)))))⟩
def ob30_1_1 : List Opn := [⟨some 9, none, .bin .lss (.t 8) (.t 7)⟩]
def ob30_1_2 : List Opn := [⟨some 10, none, .iaddr 5 (.t 6) (.t 8)⟩,
⟨some 11, none, .load 5 true (.t 10)⟩,
⟨some 5, none, .alloc 100005 [.int .i64 0, .int .i64 0, .int .i64 0, .int .i64 0, .int .i64 0]⟩,
⟨none, none, .store 5 (.t 5) (.t 11)⟩]
def ob30_1_3 : List Opn := [⟨some 12, none, .faddr 0 (.t 5)⟩,
⟨some 13, none, .load 1 false (.t 12)⟩,
⟨some 14, none, .mov (.t 3)⟩,
⟨some 15, none, .bin .leq (.t 13) (.t 14)⟩,
⟨some 16, none, .mov (.t 15)⟩,
⟨some 17, some (16, false), .faddr 0 (.t 5)⟩,
⟨some 18, some (16, false), .load 1 false (.t 17)⟩,
⟨some 19, some (16, false), .bin .gtr (.t 18) (.c (.int .i64 1099511627776))⟩,
⟨some 20, none, .pick (.t 16) (.c (.bool true)) (.t 19)⟩,
⟨some 21, none, .mov (.t 20)⟩,
⟨some 22, some (21, false), .faddr 1 (.t 5)⟩,
⟨some 23, some (21, false), .load 1 false (.t 22)⟩,
⟨some 24, some (21, false), .bin .lss (.t 23) (.c (.int .i64 1))⟩,
⟨some 25, none, .pick (.t 21) (.c (.bool true)) (.t 24)⟩,
⟨some 26, none, .mov (.t 25)⟩,
⟨some 27, some (26, false), .faddr 1 (.t 5)⟩,
⟨some 28, some (26, false), .load 1 false (.t 27)⟩,
⟨some 29, some (26, false), .bin .gtr (.t 28) (.c (.int .i64 20))⟩,
⟨some 30, none, .pick (.t 26) (.c (.bool true)) (.t 29)⟩,
⟨some 31, none, .mov (.t 30)⟩,
⟨some 32, some (31, false), .faddr 2 (.t 5)⟩,
⟨some 33, some (31, false), .load 3 true (.t 32)⟩,
⟨some 34, some (31, false), .call 31 [(.shut, (.t 33))] [] 510034000⟩,
⟨some 35, some (31, false), .un .not (.t 34)⟩,
⟨some 36, none, .pick (.t 31) (.c (.bool true)) (.t 35)⟩]
def ob30_1_4 : List Opn := [⟨some 2, none, .mov (.c (.bool false))⟩]
def ob30_1_5 : List Opn := [⟨some 37, none, .faddr 0 (.t 5)⟩,
⟨some 38, none, .load 1 false (.t 37)⟩,
⟨some 3, none, .mov (.t 38)⟩]
def ob30_1_6 : List Opn := [⟨some 39, none, .bin .add (.t 8) (.c (.int .i64 1))⟩,
⟨some 8, none, .mov (.t 39)⟩]
def b30_1 : IC := (.seq (.gh (.keep [0, 3, 6, 7, 8] []))
(.seq (.reg ob30_1_1)
(.seq (.cond (.t 9) (.skip)
(.exit 0))
(.seq (.block 1 (.seq (.reg ob30_1_2)
(.seq (.seq (.reg ob30_1_3)
(.cond (.t 36) (.seq (.reg ob30_1_4)
(.ret))
(.skip)))
(.reg ob30_1_5))))
(.reg ob30_1_6)))))
def o30_1 : List Opn := [⟨some 2, none, .mov (.c (.bool false))⟩]
def o30_2 : List Opn := [⟨some 3, none, .mov (.c (.int .i64 0))⟩]
def o30_3 : List Opn := [⟨some 6, none, .mov (.t 0)⟩,
⟨some 7, none, .len (.t 6)⟩,
⟨some 8, none, .mov (.c (.int .i64 0))⟩]
def o30_4 : List Opn := [⟨some 40, none, .mov (.t 0)⟩,
⟨some 41, none, .len (.t 40)⟩,
⟨some 42, none, .bin .leq (.t 41) (.c (.int .i64 4))⟩,
⟨some 2, none, .mov (.t 42)⟩]
def c30 : IFn := ⟨1, [.t 2], [], [],
.seq (.reg o30_1)
(.seq (.reg o30_2)
(.seq (.seq (.reg o30_3)
(.block 0 (.loop b30_1)))
(.seq (.reg o30_4)
(.ret))))⟩
def o31_1 : List Opn := [⟨some 1, none, .box 100001 (.t 0)⟩,
⟨some 2, none, .mov (.c (.bool false))⟩]
def o31_2 : List Opn := [⟨some 3, none, .faddr 0 (.t 1)⟩,
⟨some 4, none, .load 1 false (.t 3)⟩,
⟨some 5, none, .call 83 [(.shut, (.t 4)), (.shut, (.c (.int .i64 1099511627776)))] [] 110005000⟩,
⟨some 6, none, .mov (.t 5)⟩,
⟨some 7, some (6, true), .faddr 1 (.t 1)⟩,
⟨some 8, some (6, true), .load 1 false (.t 7)⟩,
⟨some 9, some (6, true), .call 83 [(.shut, (.t 8)), (.shut, (.c (.int .i64 1048576)))] [] 110009000⟩,
⟨some 10, none, .pick (.t 6) (.t 9) (.c (.bool false))⟩,
⟨some 11, none, .mov (.t 10)⟩,
⟨some 12, some (11, true), .faddr 2 (.t 1)⟩,
⟨some 13, some (11, true), .load 1 false (.t 12)⟩,
⟨some 14, some (11, true), .call 83 [(.shut, (.t 13)), (.shut, (.c (.int .i64 255)))] [] 110014000⟩,
⟨some 15, none, .pick (.t 11) (.t 14) (.c (.bool false))⟩,
⟨some 2, none, .mov (.t 15)⟩]
def c31 : IFn := ⟨1, [.t 2], [], [],
.seq (.reg o31_1)
(.seq (.reg o31_2)
(.ret))⟩
def o32_1 : List Opn := [⟨some 1, none, .box 100001 (.t 0)⟩,
⟨some 2, none, .mov (.c (.bool false))⟩]
def o32_2 : List Opn := [⟨some 3, none, .faddr 0 (.t 1)⟩,
⟨some 4, none, .load 1 false (.t 3)⟩,
⟨some 5, none, .bin .lss (.t 4) (.c (.int .i64 0))⟩,
⟨some 6, none, .mov (.t 5)⟩,
⟨some 7, some (6, false), .faddr 0 (.t 1)⟩,
⟨some 8, some (6, false), .load 1 false (.t 7)⟩,
⟨some 9, some (6, false), .bin .gtr (.t 8) (.c (.int .i64 5))⟩,
⟨some 10, none, .pick (.t 6) (.c (.bool true)) (.t 9)⟩,
⟨some 11, none, .mov (.t 10)⟩,
⟨some 12, some (11, false), .faddr 1 (.t 1)⟩,
⟨some 13, some (11, false), .load 1 false (.t 12)⟩,
⟨some 14, some (11, false), .bin .lss (.t 13) (.c (.int .i64 0))⟩,
⟨some 15, none, .pick (.t 11) (.c (.bool true)) (.t 14)⟩,
⟨some 16, none, .mov (.t 15)⟩,
⟨some 17, some (16, false), .faddr 1 (.t 1)⟩,
⟨some 18, some (16, false), .load 1 false (.t 17)⟩,
⟨some 19, some (16, false), .bin .gtr (.t 18) (.c (.int .i64 7))⟩,
⟨some 20, none, .pick (.t 16) (.c (.bool true)) (.t 19)⟩,
⟨some 21, none, .mov (.t 20)⟩,
⟨some 22, some (21, false), .faddr 2 (.t 1)⟩,
⟨some 23, some (21, false), .load 1 false (.t 22)⟩,
⟨some 24, some (21, false), .faddr 3 (.t 1)⟩,
⟨some 25, some (21, false), .load 1 false (.t 24)⟩,
⟨some 26, some (21, false), .faddr 4 (.t 1)⟩,
⟨some 27, some (21, false), .load 1 false (.t 26)⟩,
⟨some 28, some (21, false), .faddr 7 (.t 1)⟩,
⟨some 29, some (21, false), .load 1 false (.t 28)⟩,
⟨some 30, some (21, false), .faddr 10 (.t 1)⟩,
⟨some 31, some (21, false), .load 1 false (.t 30)⟩,
⟨some 32, some (21, false), .faddr 11 (.t 1)⟩,
⟨some 33, some (21, false), .load 1 false (.t 32)⟩,
⟨some 34, some (21, false), .faddr 12 (.t 1)⟩,
⟨some 35, some (21, false), .load 1 false (.t 34)⟩,
⟨some 36, some (21, false), .bslice 100036 1 [(.t 23), (.t 25), (.t 27), (.t 29), (.t 31), (.t 33), (.t 35)]⟩,
⟨some 37, some (21, false), .call 33 [(.shut, (.c (.int .i64 0))), (.shut, (.t 36))] [] 110037000⟩,
⟨some 38, some (21, false), .un .not (.t 37)⟩,
⟨some 39, none, .pick (.t 21) (.c (.bool true)) (.t 38)⟩,
⟨some 40, none, .mov (.t 39)⟩,
⟨some 41, some (40, false), .faddr 15 (.t 1)⟩,
⟨some 42, some (40, false), .load 1 false (.t 41)⟩,
⟨some 43, some (40, false), .call 33 [(.shut, (.c (.int .i64 0))), (.shut, (.t 42))] [] 110043000⟩,
⟨some 44, some (40, false), .un .not (.t 43)⟩,
⟨some 45, none, .pick (.t 40) (.c (.bool true)) (.t 44)⟩,
⟨some 46, none, .mov (.t 45)⟩,
⟨some 47, some (46, false), .faddr 16 (.t 1)⟩,
⟨some 48, some (46, false), .load 3 true (.t 47)⟩,
⟨some 49, some (46, false), .call 31 [(.shut, (.t 48))] [] 110049000⟩,
⟨some 50, some (46, false), .un .not (.t 49)⟩,
⟨some 51, none, .pick (.t 46) (.c (.bool true)) (.t 50)⟩]
def o32_3 : List Opn := [⟨some 2, none, .mov (.c (.bool false))⟩]
def o32_4 : List Opn := [⟨some 52, none, .faddr 5 (.t 1)⟩,
⟨some 53, none, .load 1 false (.t 52)⟩,
⟨some 54, none, .bin .lss (.t 53) (.c (.int .i64 0))⟩,
⟨some 55, none, .mov (.t 54)⟩,
⟨some 56, some (55, false), .faddr 5 (.t 1)⟩,
⟨some 57, some (55, false), .load 1 false (.t 56)⟩,
⟨some 58, some (55, false), .bin .gtr (.t 57) (.c (.int .i64 3))⟩,
⟨some 59, none, .pick (.t 55) (.c (.bool true)) (.t 58)⟩,
⟨some 60, none, .mov (.t 59)⟩,
⟨some 61, some (60, false), .faddr 6 (.t 1)⟩,
⟨some 62, some (60, false), .load 1 false (.t 61)⟩,
⟨some 63, some (60, false), .bin .lss (.t 62) (.c (.int .i64 0))⟩,
⟨some 64, none, .pick (.t 60) (.c (.bool true)) (.t 63)⟩,
⟨some 65, none, .mov (.t 64)⟩,
⟨some 66, some (65, false), .faddr 6 (.t 1)⟩,
⟨some 67, some (65, false), .load 1 false (.t 66)⟩,
⟨some 68, some (65, false), .bin .gtr (.t 67) (.c (.int .i64 3))⟩,
⟨some 69, none, .pick (.t 65) (.c (.bool true)) (.t 68)⟩,
⟨some 70, none, .mov (.t 69)⟩,
⟨some 71, some (70, false), .faddr 19 (.t 1)⟩,
⟨some 72, some (70, false), .load 1 false (.t 71)⟩,
⟨some 73, some (70, false), .len (.t 72)⟩,
⟨some 74, some (70, false), .bin .gtr (.t 73) (.c (.int .i64 0))⟩,
⟨some 75, some (70, false), .mov (.t 74)⟩,
⟨some 76, some (75, true), .faddr 19 (.t 1)⟩,
⟨some 77, some (75, true), .load 1 false (.t 76)⟩,
⟨some 78, some (75, true), .call 34 [(.shut, (.t 77))] [] 310078000⟩,
⟨some 79, some (75, true), .un .not (.t 78)⟩,
⟨some 80, some (70, false), .pick (.t 75) (.t 79) (.c (.bool false))⟩,
⟨some 81, none, .pick (.t 70) (.c (.bool true)) (.t 80)⟩]
def o32_5 : List Opn := [⟨some 2, none, .mov (.c (.bool false))⟩]
def o32_6 : List Opn := [⟨some 82, none, .faddr 0 (.t 1)⟩,
⟨some 83, none, .load 1 false (.t 82)⟩]
def o32_7 : List Opn := [⟨some 85, none, .eq false false [.i] (.t 83) (.c (.int .i64 5))⟩,
⟨some 84, none, .mov (.t 85)⟩]
def o32_8 : List Opn := [⟨some 86, none, .faddr 5 (.t 1)⟩,
⟨some 87, none, .load 1 false (.t 86)⟩,
⟨some 88, none, .bin .gtr (.t 87) (.c (.int .i64 0))⟩,
⟨some 89, none, .mov (.t 88)⟩,
⟨some 90, some (89, true), .faddr 19 (.t 1)⟩,
⟨some 91, some (89, true), .load 1 false (.t 90)⟩,
⟨some 92, some (89, true), .len (.t 91)⟩,
⟨some 93, some (89, true), .bin .gtr (.t 92) (.c (.int .i64 0))⟩,
⟨some 94, none, .pick (.t 89) (.t 93) (.c (.bool false))⟩,
⟨some 2, none, .mov (.t 94)⟩]
def o32_9 : List Opn := [⟨some 96, none, .eq false false [.i] (.t 83) (.c (.int .i64 1))⟩,
⟨some 95, none, .mov (.t 96)⟩]
def o32_10 : List Opn := [⟨some 97, none, .faddr 5 (.t 1)⟩,
⟨some 98, none, .load 1 false (.t 97)⟩,
⟨some 99, none, .bin .gtr (.t 98) (.c (.int .i64 0))⟩,
⟨some 100, none, .mov (.t 99)⟩,
⟨some 101, some (100, true), .faddr 6 (.t 1)⟩,
⟨some 102, some (100, true), .load 1 false (.t 101)⟩,
⟨some 103, some (100, true), .bin .gtr (.t 102) (.c (.int .i64 0))⟩,
⟨some 104, none, .pick (.t 100) (.t 103) (.c (.bool false))⟩,
⟨some 2, none, .mov (.t 104)⟩]
def o32_11 : List Opn := [⟨some 106, none, .eq false false [.i] (.t 83) (.c (.int .i64 2))⟩,
⟨some 105, none, .mov (.t 106)⟩]
def o32_12 : List Opn := [⟨some 107, none, .eq false false [.i] (.t 83) (.c (.int .i64 3))⟩,
⟨some 105, none, .mov (.t 107)⟩]
def o32_13 : List Opn := [⟨some 108, none, .faddr 5 (.t 1)⟩,
⟨some 109, none, .load 1 false (.t 108)⟩,
⟨some 110, none, .bin .gtr (.t 109) (.c (.int .i64 0))⟩,
⟨some 2, none, .mov (.t 110)⟩]
def o32_14 : List Opn := [⟨some 2, none, .mov (.c (.bool true))⟩]
def c32 : IFn := ⟨1, [.t 2], [], [],
.seq (.reg o32_1)
(.seq (.seq (.reg o32_2)
(.cond (.t 51) (.seq (.reg o32_3)
(.ret))
(.skip)))
(.seq (.seq (.reg o32_4)
(.cond (.t 81) (.seq (.reg o32_5)
(.ret))
(.skip)))
(.seq (.seq (.reg o32_6)
(.block 0 (.seq (.reg o32_7)
(.cond (.t 84) (.seq (.reg o32_8)
(.ret))
(.seq (.reg o32_9)
(.cond (.t 95) (.seq (.reg o32_10)
(.ret))
(.seq (.seq (.reg o32_11)
(.cond (.t 105) (.skip)
(.reg o32_12)))
(.cond (.t 105) (.seq (.reg o32_13)
(.ret))
(.skip)))))))))
(.seq (.reg o32_14)
(.ret)))))⟩
def o33_1 : List Opn := [⟨some 2, none, .box 100002 (.t 0)⟩,
⟨some 4, none, .mov (.c (.bool false))⟩]
def o33_2 : List Opn := [⟨some 5, none, .mov (.t 1)⟩,
⟨some 6, none, .mkf 84 [(.t 2)]⟩,
⟨some 7, none, .call 71 [(.shut, (.t 5)), (.shut, (.t 6))] [] 110007000⟩,
⟨some 8, none, .un .not (.t 7)⟩,
⟨some 4, none, .mov (.t 8)⟩]
def c33 : IFn := ⟨2, [.t 4], [], [],
.seq (.reg o33_1)
(.seq (.reg o33_2)
(.ret))⟩
def ob34_1_1 : List Opn := [⟨some 8, none, .bin .lss (.t 7) (.t 6)⟩]
def ob34_1_2 : List Opn := [⟨some 9, none, .mov (.t 7)⟩,
⟨some 10, none, .iaddr 1 (.t 5) (.t 7)⟩,
⟨some 11, none, .load 1 false (.t 10)⟩,
⟨some 3, none, .mov (.t 9)⟩,
⟨some 4, none, .mov (.t 11)⟩]
def ob34_1_3 : List Opn := [⟨some 12, none, .mov (.t 4)⟩,
⟨some 13, none, .bin .lss (.t 12) (.c (.int .i64 1))⟩,
⟨some 14, none, .mov (.t 13)⟩,
⟨some 15, some (14, false), .mov (.t 4)⟩,
⟨some 16, some (14, false), .bin .gtr (.t 15) (.c (.int .i64 3))⟩,
⟨some 17, none, .pick (.t 14) (.c (.bool true)) (.t 16)⟩,
⟨some 18, none, .mov (.t 17)⟩,
⟨some 19, some (18, false), .mov (.t 0)⟩,
⟨some 20, some (18, false), .mov (.t 3)⟩,
⟨some 21, some (18, false), .slc 1 (.t 19) none (some (.t 20)) none⟩,
⟨some 22, some (18, false), .mov (.t 4)⟩,
⟨some 23, some (18, false), .call 42 [(.shut, (.t 21)), (.shut, (.t 22))] [] 410023000⟩,
⟨some 24, none, .pick (.t 18) (.c (.bool true)) (.t 23)⟩]
def ob34_1_4 : List Opn := [⟨some 2, none, .mov (.c (.bool false))⟩]
def ob34_1_5 : List Opn := [⟨some 25, none, .bin .add (.t 7) (.c (.int .i64 1))⟩,
⟨some 7, none, .mov (.t 25)⟩]
def b34_1 : IC := (.seq (.gh (.keep [0, 5, 6, 7] []))
(.seq (.reg ob34_1_1)
(.seq (.cond (.t 8) (.skip)
(.exit 0))
(.seq (.block 1 (.seq (.reg ob34_1_2)
(.seq (.reg ob34_1_3)
(.cond (.t 24) (.seq (.reg ob34_1_4)
(.ret))
(.skip)))))
(.reg ob34_1_5)))))
def o34_1 : List Opn := [⟨some 2, none, .mov (.c (.bool false))⟩]
def o34_2 : List Opn := [⟨some 5, none, .mov (.t 0)⟩,
⟨some 6, none, .len (.t 5)⟩,
⟨some 7, none, .mov (.c (.int .i64 0))⟩]
def o34_3 : List Opn := [⟨some 26, none, .mov (.t 0)⟩,
⟨some 27, none, .len (.t 26)⟩,
⟨some 28, none, .bin .gtr (.t 27) (.c (.int .i64 0))⟩,
⟨some 2, none, .mov (.t 28)⟩]
def c34 : IFn := ⟨1, [.t 2], [], [],
.seq (.reg o34_1)
(.seq (.seq (.reg o34_2)
(.block 0 (.loop b34_1)))
(.seq (.reg o34_3)
(.ret)))⟩
def ob35_1_1 : List Opn := [⟨some 57, none, .mov (.t 5)⟩,
⟨some 58, none, .mov (.t 0)⟩,
⟨some 59, none, .len (.t 58)⟩,
⟨some 60, none, .bin .lss (.t 57) (.t 59)⟩]
def ob35_1_2 : List Opn := [⟨some 63, none, .mov (.t 0)⟩,
⟨some 64, none, .mov (.t 5)⟩,
⟨some 65, none, .iaddr 5 (.t 63) (.t 64)⟩,
⟨some 66, none, .faddr 2 (.t 65)⟩,
⟨some 67, none, .load 1 false (.t 66)⟩,
⟨some 68, none, .mov (.t 0)⟩,
⟨some 69, none, .mov (.t 4)⟩,
⟨some 70, none, .iaddr 5 (.t 68) (.t 69)⟩,
⟨some 71, none, .faddr 2 (.t 70)⟩,
⟨some 72, none, .load 1 false (.t 71)⟩,
⟨some 73, none, .eq false false [.i] (.t 67) (.t 72)⟩]
def ob35_1_3 : List Opn := [⟨some 2, none, .mov (.c (.bool false))⟩]
def ob35_1_4 : List Opn := [⟨some 61, none, .mov (.t 5)⟩,
⟨some 62, none, .bin .add (.t 61) (.c (.int .i64 1))⟩,
⟨some 5, none, .mov (.t 62)⟩]
def b35_1 : IC := (.seq (.gh (.keep [0, 3, 4, 5] [100021, 100022, 300003]))
(.seq (.seq (.reg ob35_1_1)
(.cond (.t 60) (.skip)
(.exit 2)))
(.seq (.block 3 (.seq (.dreg ob35_1_2
[])
(.cond (.t 73) (.seq (.reg ob35_1_3)
(.ret))
(.skip))))
(.reg ob35_1_4))))
def ob35_2_1 : List Opn := [⟨some 9, none, .mov (.t 4)⟩,
⟨some 10, none, .mov (.t 0)⟩,
⟨some 11, none, .len (.t 10)⟩,
⟨some 12, none, .bin .lss (.t 9) (.t 11)⟩]
def ob35_2_2 : List Opn := [⟨some 15, none, .mov (.t 3)⟩,
⟨some 16, none, .mov (.t 0)⟩,
⟨some 17, none, .mov (.t 4)⟩,
⟨some 18, none, .iaddr 5 (.t 16) (.t 17)⟩,
⟨some 19, none, .faddr 0 (.t 18)⟩,
⟨some 20, none, .load 2 true (.t 19)⟩,
⟨some 21, none, .bslice 100021 2 [(.t 20)]⟩,
⟨some 22, none, .app 100022 2 32 (.t 15) (.t 21)⟩,
⟨some 3, none, .mov (.t 22)⟩]
def ob35_2_3 : List Opn := [⟨some 23, none, .mov (.t 0)⟩,
⟨some 24, none, .mov (.t 4)⟩,
⟨some 25, none, .iaddr 5 (.t 23) (.t 24)⟩,
⟨some 26, none, .faddr 2 (.t 25)⟩,
⟨some 27, none, .load 1 false (.t 26)⟩,
⟨some 28, none, .call 85 [(.shut, (.t 27))] [] 810028000⟩,
⟨some 29, none, .un .not (.t 28)⟩,
⟨some 30, none, .mov (.t 29)⟩,
⟨some 31, some (30, false), .mov (.t 0)⟩,
⟨some 32, some (30, false), .mov (.t 4)⟩,
⟨some 33, some (30, false), .iaddr 5 (.t 31) (.t 32)⟩,
⟨some 34, some (30, false), .faddr 4 (.t 33)⟩,
⟨some 35, some (30, false), .load 1 false (.t 34)⟩,
⟨some 36, some (30, false), .call 85 [(.shut, (.t 35))] [] 810036000⟩,
⟨some 37, some (30, false), .un .not (.t 36)⟩,
⟨some 38, none, .pick (.t 30) (.c (.bool true)) (.t 37)⟩,
⟨some 39, none, .mov (.t 38)⟩,
⟨some 40, some (39, false), .mov (.t 0)⟩,
⟨some 41, some (39, false), .mov (.t 4)⟩,
⟨some 42, some (39, false), .iaddr 5 (.t 40) (.t 41)⟩,
⟨some 43, some (39, false), .faddr 3 (.t 42)⟩,
⟨some 44, some (39, false), .load 1 false (.t 43)⟩,
⟨some 45, some (39, false), .bin .lss (.t 44) (.c (.int .i64 1))⟩,
⟨some 46, none, .pick (.t 39) (.c (.bool true)) (.t 45)⟩,
⟨some 47, none, .mov (.t 46)⟩,
⟨some 48, some (47, false), .mov (.t 0)⟩,
⟨some 49, some (47, false), .mov (.t 4)⟩,
⟨some 50, some (47, false), .iaddr 5 (.t 48) (.t 49)⟩,
⟨some 51, some (47, false), .faddr 3 (.t 50)⟩,
⟨some 52, some (47, false), .load 1 false (.t 51)⟩,
⟨some 53, some (47, false), .bin .gtr (.t 52) (.c (.int .i64 3))⟩,
⟨some 54, none, .pick (.t 47) (.c (.bool true)) (.t 53)⟩]
def ob35_2_4 : List Opn := [⟨some 2, none, .mov (.c (.bool false))⟩]
def ob35_2_5 : List Opn := [⟨some 55, none, .mov (.t 4)⟩,
⟨some 56, none, .bin .add (.t 55) (.c (.int .i64 1))⟩,
⟨some 5, none, .mov (.t 56)⟩]
def ob35_2_6 : List Opn := [⟨some 13, none, .mov (.t 4)⟩,
⟨some 14, none, .bin .add (.t 13) (.c (.int .i64 1))⟩,
⟨some 4, none, .mov (.t 14)⟩]
def b35_2 : IC := (.seq (.gh (.keep [0, 3, 4] [300003]))
(.seq (.seq (.reg ob35_2_1)
(.cond (.t 12) (.skip)
(.exit 0)))
(.seq (.block 1 (.seq (.reg ob35_2_2)
(.seq (.seq (.reg ob35_2_3)
(.cond (.t 54) (.seq (.reg ob35_2_4)
(.ret))
(.skip)))
(.seq (.reg ob35_2_5)
(.block 2 (.loop b35_1))))))
(.reg ob35_2_6))))
def o35_1 : List Opn := [⟨some 2, none, .mov (.c (.bool false))⟩]
def o35_2 : List Opn := [⟨some 6, none, .mov (.t 0)⟩,
⟨some 7, none, .len (.t 6)⟩,
⟨some 8, none, .bin .gtr (.t 7) (.c (.int .i64 8))⟩]
def o35_3 : List Opn := [⟨some 2, none, .mov (.c (.bool false))⟩]
def o35_4 : List Opn := [⟨some 3, none, .mov (.c (.nul))⟩]
def o35_5 : List Opn := [⟨some 4, none, .mov (.c (.int .i64 0))⟩]
def o35_6 : List Opn := [⟨some 74, none, .mov (.t 3)⟩,
⟨some 75, none, .call 86 [(.shut, (.t 74))] [] 1510075000⟩,
⟨some 2, none, .mov (.t 75)⟩]
def c35 : IFn := ⟨1, [.t 2], [], [],
.seq (.reg o35_1)
(.seq (.seq (.reg o35_2)
(.cond (.t 8) (.seq (.reg o35_3)
(.ret))
(.skip)))
(.seq (.reg o35_4)
(.seq (.seq (.reg o35_5)
(.block 0 (.seq (.gh (.room 3 300003 2))
(.loop b35_2))))
(.seq (.reg o35_6)
(.ret)))))⟩
def ob36_1_1 : List Opn := [⟨some 7, none, .mov (.t 3)⟩,
⟨some 8, none, .mov (.t 0)⟩,
⟨some 9, none, .len (.t 8)⟩,
⟨some 10, none, .bin .lss (.t 7) (.t 9)⟩]
def ob36_1_2 : List Opn := [⟨some 13, none, .mov (.t 0)⟩,
⟨some 14, none, .mov (.t 3)⟩,
⟨some 15, none, .iaddr 5 (.t 13) (.t 14)⟩,
⟨some 16, none, .faddr 0 (.t 15)⟩,
⟨some 17, none, .load 1 false (.t 16)⟩,
⟨some 18, none, .bin .lss (.t 17) (.c (.int .i64 1))⟩,
⟨some 19, none, .mov (.t 18)⟩,
⟨some 20, some (19, false), .mov (.t 0)⟩,
⟨some 21, some (19, false), .mov (.t 3)⟩,
⟨some 22, some (19, false), .iaddr 5 (.t 20) (.t 21)⟩,
⟨some 23, some (19, false), .faddr 0 (.t 22)⟩,
⟨some 24, some (19, false), .load 1 false (.t 23)⟩,
⟨some 25, some (19, false), .bin .gtr (.t 24) (.c (.int .i64 1099511627776))⟩,
⟨some 26, none, .pick (.t 19) (.c (.bool true)) (.t 25)⟩,
⟨some 27, none, .mov (.t 26)⟩,
⟨some 28, some (27, false), .mov (.t 0)⟩,
⟨some 29, some (27, false), .mov (.t 3)⟩,
⟨some 30, some (27, false), .iaddr 5 (.t 28) (.t 29)⟩,
⟨some 31, some (27, false), .faddr 1 (.t 30)⟩,
⟨some 32, some (27, false), .load 1 false (.t 31)⟩,
⟨some 33, some (27, false), .bin .lss (.t 32) (.c (.int .i64 1))⟩,
⟨some 34, none, .pick (.t 27) (.c (.bool true)) (.t 33)⟩,
⟨some 35, none, .mov (.t 34)⟩,
⟨some 36, some (35, false), .mov (.t 0)⟩,
⟨some 37, some (35, false), .mov (.t 3)⟩,
⟨some 38, some (35, false), .iaddr 5 (.t 36) (.t 37)⟩,
⟨some 39, some (35, false), .faddr 1 (.t 38)⟩,
⟨some 40, some (35, false), .load 1 false (.t 39)⟩,
⟨some 41, some (35, false), .bin .gtr (.t 40) (.c (.int .i64 20))⟩,
⟨some 42, none, .pick (.t 35) (.c (.bool true)) (.t 41)⟩,
⟨some 43, none, .mov (.t 42)⟩,
⟨some 44, some (43, false), .mov (.t 0)⟩,
⟨some 45, some (43, false), .mov (.t 3)⟩,
⟨some 46, some (43, false), .iaddr 5 (.t 44) (.t 45)⟩,
⟨some 47, some (43, false), .faddr 2 (.t 46)⟩,
⟨some 48, some (43, false), .load 3 true (.t 47)⟩,
⟨some 49, some (43, false), .call 38 [(.shut, (.t 48))] [] 610049000⟩,
⟨some 50, some (43, false), .un .not (.t 49)⟩,
⟨some 51, none, .pick (.t 43) (.c (.bool true)) (.t 50)⟩]
def ob36_1_3 : List Opn := [⟨some 2, none, .mov (.c (.bool false))⟩]
def ob36_1_4 : List Opn := [⟨some 52, none, .mov (.t 3)⟩,
⟨some 53, none, .bin .gtr (.t 52) (.c (.int .i64 0))⟩,
⟨some 54, none, .mov (.t 53)⟩,
⟨some 55, some (54, true), .mov (.t 0)⟩,
⟨some 56, some (54, true), .mov (.t 3)⟩,
⟨some 57, some (54, true), .bin .sub (.t 56) (.c (.int .i64 1))⟩,
⟨some 58, some (54, true), .iaddr 5 (.t 55) (.t 57)⟩,
⟨some 59, some (54, true), .faddr 0 (.t 58)⟩,
⟨some 60, some (54, true), .load 1 false (.t 59)⟩,
⟨some 61, some (54, true), .mov (.t 0)⟩,
⟨some 62, some (54, true), .mov (.t 3)⟩,
⟨some 63, some (54, true), .iaddr 5 (.t 61) (.t 62)⟩,
⟨some 64, some (54, true), .faddr 0 (.t 63)⟩,
⟨some 65, some (54, true), .load 1 false (.t 64)⟩,
⟨some 66, some (54, true), .bin .geq (.t 60) (.t 65)⟩,
⟨some 67, none, .pick (.t 54) (.t 66) (.c (.bool false))⟩]
def ob36_1_5 : List Opn := [⟨some 2, none, .mov (.c (.bool false))⟩]
def ob36_1_6 : List Opn := [⟨some 11, none, .mov (.t 3)⟩,
⟨some 12, none, .bin .add (.t 11) (.c (.int .i64 1))⟩,
⟨some 3, none, .mov (.t 12)⟩]
def b36_1 : IC := (.seq (.gh (.keep [0, 3] []))
(.seq (.seq (.reg ob36_1_1)
(.cond (.t 10) (.skip)
(.exit 0)))
(.seq (.block 1 (.seq (.seq (.reg ob36_1_2)
(.cond (.t 51) (.seq (.reg ob36_1_3)
(.ret))
(.skip)))
(.seq (.dreg ob36_1_4
[])
(.cond (.t 67) (.seq (.reg ob36_1_5)
(.ret))
(.skip)))))
(.reg ob36_1_6))))
def o36_1 : List Opn := [⟨some 2, none, .mov (.c (.bool false))⟩]
def o36_2 : List Opn := [⟨some 4, none, .mov (.t 0)⟩,
⟨some 5, none, .len (.t 4)⟩,
⟨some 6, none, .bin .gtr (.t 5) (.c (.int .i64 4))⟩]
def o36_3 : List Opn := [⟨some 2, none, .mov (.c (.bool false))⟩]
def o36_4 : List Opn := [⟨some 3, none, .mov (.c (.int .i64 0))⟩]
def o36_5 : List Opn := [⟨some 2, none, .mov (.c (.bool true))⟩]
def c36 : IFn := ⟨1, [.t 2], [], [],
.seq (.reg o36_1)
(.seq (.seq (.reg o36_2)
(.cond (.t 6) (.seq (.reg o36_3)
(.ret))
(.skip)))
(.seq (.seq (.reg o36_4)
(.block 0 (.loop b36_1)))
(.seq (.reg o36_5)
(.ret))))⟩
def o37_1 : List Opn := [⟨some 2, none, .mov (.c (.bool false))⟩]
def o37_2 : List Opn := [⟨some 3, none, .mov (.t 0)⟩,
⟨some 4, none, .bin .geq (.t 3) (.c (.int .i64 0))⟩,
⟨some 5, none, .mov (.t 4)⟩,
⟨some 6, some (5, true), .mov (.t 0)⟩,
⟨some 7, some (5, true), .bin .leq (.t 6) (.c (.int .i64 1099511627776))⟩,
⟨some 8, none, .pick (.t 5) (.t 7) (.c (.bool false))⟩,
⟨some 2, none, .mov (.t 8)⟩]
def c37 : IFn := ⟨1, [.t 2], [], [],
.seq (.reg o37_1)
(.seq (.reg o37_2)
(.ret))⟩
def o38_1 : List Opn := [⟨some 1, none, .box 100001 (.t 0)⟩,
⟨some 2, none, .mov (.c (.bool false))⟩]
def o38_2 : List Opn := [⟨some 3, none, .faddr 0 (.t 1)⟩,
⟨some 4, none, .load 1 false (.t 3)⟩,
⟨some 5, none, .bin .geq (.t 4) (.c (.int .i64 0))⟩,
⟨some 6, none, .mov (.t 5)⟩,
⟨some 7, some (6, true), .faddr 0 (.t 1)⟩,
⟨some 8, some (6, true), .load 1 false (.t 7)⟩,
⟨some 9, some (6, true), .bin .leq (.t 8) (.c (.int .i64 1099511627776))⟩,
⟨some 10, none, .pick (.t 6) (.t 9) (.c (.bool false))⟩,
⟨some 11, none, .mov (.t 10)⟩,
⟨some 12, some (11, true), .faddr 1 (.t 1)⟩,
⟨some 13, some (11, true), .load 1 false (.t 12)⟩,
⟨some 14, some (11, true), .bin .geq (.t 13) (.c (.int .i64 0))⟩,
⟨some 15, none, .pick (.t 11) (.t 14) (.c (.bool false))⟩,
⟨some 16, none, .mov (.t 15)⟩,
⟨some 17, some (16, true), .faddr 1 (.t 1)⟩,
⟨some 18, some (16, true), .load 1 false (.t 17)⟩,
⟨some 19, some (16, true), .bin .leq (.t 18) (.c (.int .i64 1048576))⟩,
⟨some 20, none, .pick (.t 16) (.t 19) (.c (.bool false))⟩,
⟨some 21, none, .mov (.t 20)⟩,
⟨some 22, some (21, true), .faddr 2 (.t 1)⟩,
⟨some 23, some (21, true), .load 1 false (.t 22)⟩,
⟨some 24, some (21, true), .bin .geq (.t 23) (.c (.int .i64 0))⟩,
⟨some 25, none, .pick (.t 21) (.t 24) (.c (.bool false))⟩,
⟨some 26, none, .mov (.t 25)⟩,
⟨some 27, some (26, true), .faddr 2 (.t 1)⟩,
⟨some 28, some (26, true), .load 1 false (.t 27)⟩,
⟨some 29, some (26, true), .bin .leq (.t 28) (.c (.int .i64 255))⟩,
⟨some 30, none, .pick (.t 26) (.t 29) (.c (.bool false))⟩,
⟨some 2, none, .mov (.t 30)⟩]
def c38 : IFn := ⟨1, [.t 2], [], [],
.seq (.reg o38_1)
(.seq (.reg o38_2)
(.ret))⟩
def ob39_1_1 : List Opn := [⟨some 70, none, .mov (.t 3)⟩,
⟨some 71, none, .faddr 15 (.t 1)⟩,
⟨some 72, none, .load 1 false (.t 71)⟩,
⟨some 73, none, .len (.t 72)⟩,
⟨some 74, none, .bin .lss (.t 70) (.t 73)⟩]
def ob39_1_2 : List Opn := [⟨some 77, none, .faddr 15 (.t 1)⟩,
⟨some 78, none, .load 1 false (.t 77)⟩,
⟨some 79, none, .mov (.t 3)⟩,
⟨some 80, none, .iaddr 1 (.t 78) (.t 79)⟩,
⟨some 81, none, .load 1 false (.t 80)⟩,
⟨some 82, none, .call 37 [(.shut, (.t 81))] [] 610082000⟩,
⟨some 83, none, .un .not (.t 82)⟩]
def ob39_1_3 : List Opn := [⟨some 2, none, .mov (.c (.bool false))⟩]
def ob39_1_4 : List Opn := [⟨some 75, none, .mov (.t 3)⟩,
⟨some 76, none, .bin .add (.t 75) (.c (.int .i64 1))⟩,
⟨some 3, none, .mov (.t 76)⟩]
def b39_1 : IC := (.seq (.gh (.keep [1, 3] [100001]))
(.seq (.seq (.reg ob39_1_1)
(.cond (.t 74) (.skip)
(.exit 0)))
(.seq (.block 1 (.seq (.reg ob39_1_2)
(.cond (.t 83) (.seq (.reg ob39_1_3)
(.ret))
(.skip))))
(.reg ob39_1_4))))
def ok39_1_1 : List Opn := [⟨some 84, none, .faddr 5 (.t 1)⟩,
⟨some 85, none, .load 1 false (.t 84)⟩,
⟨some 86, none, .bin .lss (.t 85) (.c (.int .i64 0))⟩,
⟨some 87, none, .mov (.t 86)⟩,
⟨some 88, some (87, false), .faddr 5 (.t 1)⟩,
⟨some 89, some (87, false), .load 1 false (.t 88)⟩,
⟨some 90, some (87, false), .bin .gtr (.t 89) (.c (.int .i64 3))⟩,
⟨some 91, none, .pick (.t 87) (.c (.bool true)) (.t 90)⟩,
⟨some 92, none, .mov (.t 91)⟩,
⟨some 93, some (92, false), .faddr 6 (.t 1)⟩,
⟨some 94, some (92, false), .load 1 false (.t 93)⟩,
⟨some 95, some (92, false), .bin .lss (.t 94) (.c (.int .i64 0))⟩,
⟨some 96, none, .pick (.t 92) (.c (.bool true)) (.t 95)⟩,
⟨some 97, none, .mov (.t 96)⟩,
⟨some 98, some (97, false), .faddr 6 (.t 1)⟩,
⟨some 99, some (97, false), .load 1 false (.t 98)⟩,
⟨some 100, some (97, false), .bin .gtr (.t 99) (.c (.int .i64 3))⟩,
⟨some 101, none, .pick (.t 97) (.c (.bool true)) (.t 100)⟩,
⟨some 102, none, .mov (.t 101)⟩,
⟨some 103, some (102, false), .faddr 19 (.t 1)⟩,
⟨some 104, some (102, false), .load 1 false (.t 103)⟩,
⟨some 105, some (102, false), .len (.t 104)⟩,
⟨some 106, some (102, false), .bin .gtr (.t 105) (.c (.int .i64 0))⟩,
⟨some 107, some (102, false), .mov (.t 106)⟩,
⟨some 108, some (107, true), .faddr 19 (.t 1)⟩,
⟨some 109, some (107, true), .load 1 false (.t 108)⟩,
⟨some 110, some (107, true), .call 40 [(.shut, (.t 109))] [] 810110000⟩,
⟨some 111, some (107, true), .un .not (.t 110)⟩,
⟨some 112, some (102, false), .pick (.t 107) (.t 111) (.c (.bool false))⟩,
⟨some 113, none, .pick (.t 102) (.c (.bool true)) (.t 112)⟩]
def ok39_1_2 : List Opn := [⟨some 2, none, .mov (.c (.bool false))⟩]
def ok39_1_3 : List Opn := [⟨some 114, none, .faddr 0 (.t 1)⟩,
⟨some 115, none, .load 1 false (.t 114)⟩,
⟨some 116, none, .eq false false [.i] (.t 115) (.c (.int .i64 5))⟩,
⟨some 117, none, .mov (.t 116)⟩,
⟨some 118, some (117, true), .faddr 19 (.t 1)⟩,
⟨some 119, some (117, true), .load 1 false (.t 118)⟩,
⟨some 120, some (117, true), .len (.t 119)⟩,
⟨some 121, some (117, true), .eq false false [.i] (.t 120) (.c (.int .i64 0))⟩,
⟨some 122, none, .pick (.t 117) (.t 121) (.c (.bool false))⟩,
⟨some 123, none, .mov (.t 122)⟩,
⟨some 124, some (123, false), .faddr 0 (.t 1)⟩,
⟨some 125, some (123, false), .load 1 false (.t 124)⟩,
⟨some 126, some (123, false), .eq false false [.i] (.t 125) (.c (.int .i64 1))⟩,
⟨some 127, some (123, false), .mov (.t 126)⟩,
⟨some 128, some (127, true), .faddr 6 (.t 1)⟩,
⟨some 129, some (127, true), .load 1 false (.t 128)⟩,
⟨some 130, some (127, true), .eq false false [.i] (.t 129) (.c (.int .i64 0))⟩,
⟨some 131, some (123, false), .pick (.t 127) (.t 130) (.c (.bool false))⟩,
⟨some 132, none, .pick (.t 123) (.c (.bool true)) (.t 131)⟩]
def ok39_1_4 : List Opn := [⟨some 2, none, .mov (.c (.bool false))⟩]
def ok39_1_5 : List Opn := [⟨some 133, none, .faddr 0 (.t 1)⟩,
⟨some 134, none, .load 1 false (.t 133)⟩,
⟨some 135, none, .eq false false [.i] (.t 134) (.c (.int .i64 0))⟩,
⟨some 136, none, .mov (.t 135)⟩,
⟨some 137, some (136, false), .faddr 0 (.t 1)⟩,
⟨some 138, some (136, false), .load 1 false (.t 137)⟩,
⟨some 139, some (136, false), .eq false false [.i] (.t 138) (.c (.int .i64 4))⟩,
⟨some 140, none, .pick (.t 136) (.c (.bool true)) (.t 139)⟩,
⟨some 141, none, .mov (.t 140)⟩,
⟨some 142, some (141, false), .faddr 5 (.t 1)⟩,
⟨some 143, some (141, false), .load 1 false (.t 142)⟩,
⟨some 144, some (141, false), .bin .gtr (.t 143) (.c (.int .i64 0))⟩,
⟨some 145, none, .pick (.t 141) (.c (.bool true)) (.t 144)⟩,
⟨some 2, none, .mov (.t 145)⟩]
def k39_1 : IC := (.seq (.seq (.reg ok39_1_1)
(.cond (.t 113) (.seq (.reg ok39_1_2)
(.ret))
(.skip)))
(.seq (.seq (.reg ok39_1_3)
(.cond (.t 132) (.seq (.reg ok39_1_4)
(.ret))
(.skip)))
(.seq (.reg ok39_1_5)
(.ret))))
def o39_1 : List Opn := [⟨some 1, none, .box 100001 (.t 0)⟩,
⟨some 2, none, .mov (.c (.bool false))⟩]
def o39_2 : List Opn := [⟨some 4, none, .faddr 0 (.t 1)⟩,
⟨some 5, none, .load 1 false (.t 4)⟩,
⟨some 6, none, .bin .lss (.t 5) (.c (.int .i64 0))⟩,
⟨some 7, none, .mov (.t 6)⟩,
⟨some 8, some (7, false), .faddr 0 (.t 1)⟩,
⟨some 9, some (7, false), .load 1 false (.t 8)⟩,
⟨some 10, some (7, false), .bin .gtr (.t 9) (.c (.int .i64 5))⟩,
⟨some 11, none, .pick (.t 7) (.c (.bool true)) (.t 10)⟩,
⟨some 12, none, .mov (.t 11)⟩,
⟨some 13, some (12, false), .faddr 1 (.t 1)⟩,
⟨some 14, some (12, false), .load 1 false (.t 13)⟩,
⟨some 15, some (12, false), .bin .lss (.t 14) (.c (.int .i64 0))⟩,
⟨some 16, none, .pick (.t 12) (.c (.bool true)) (.t 15)⟩,
⟨some 17, none, .mov (.t 16)⟩,
⟨some 18, some (17, false), .faddr 1 (.t 1)⟩,
⟨some 19, some (17, false), .load 1 false (.t 18)⟩,
⟨some 20, some (17, false), .bin .gtr (.t 19) (.c (.int .i64 7))⟩,
⟨some 21, none, .pick (.t 17) (.c (.bool true)) (.t 20)⟩,
⟨some 22, none, .mov (.t 21)⟩,
⟨some 23, some (22, false), .faddr 2 (.t 1)⟩,
⟨some 24, some (22, false), .load 1 false (.t 23)⟩,
⟨some 25, some (22, false), .call 37 [(.shut, (.t 24))] [] 110025000⟩,
⟨some 26, some (22, false), .un .not (.t 25)⟩,
⟨some 27, none, .pick (.t 22) (.c (.bool true)) (.t 26)⟩,
⟨some 28, none, .mov (.t 27)⟩,
⟨some 29, some (28, false), .faddr 3 (.t 1)⟩,
⟨some 30, some (28, false), .load 1 false (.t 29)⟩,
⟨some 31, some (28, false), .call 37 [(.shut, (.t 30))] [] 110031000⟩,
⟨some 32, some (28, false), .un .not (.t 31)⟩,
⟨some 33, none, .pick (.t 28) (.c (.bool true)) (.t 32)⟩,
⟨some 34, none, .mov (.t 33)⟩,
⟨some 35, some (34, false), .faddr 4 (.t 1)⟩,
⟨some 36, some (34, false), .load 1 false (.t 35)⟩,
⟨some 37, some (34, false), .call 37 [(.shut, (.t 36))] [] 110037000⟩,
⟨some 38, some (34, false), .un .not (.t 37)⟩,
⟨some 39, none, .pick (.t 34) (.c (.bool true)) (.t 38)⟩,
⟨some 40, none, .mov (.t 39)⟩,
⟨some 41, some (40, false), .faddr 7 (.t 1)⟩,
⟨some 42, some (40, false), .load 1 false (.t 41)⟩,
⟨some 43, some (40, false), .call 37 [(.shut, (.t 42))] [] 110043000⟩,
⟨some 44, some (40, false), .un .not (.t 43)⟩,
⟨some 45, none, .pick (.t 40) (.c (.bool true)) (.t 44)⟩,
⟨some 46, none, .mov (.t 45)⟩,
⟨some 47, some (46, false), .faddr 10 (.t 1)⟩,
⟨some 48, some (46, false), .load 1 false (.t 47)⟩,
⟨some 49, some (46, false), .call 37 [(.shut, (.t 48))] [] 110049000⟩,
⟨some 50, some (46, false), .un .not (.t 49)⟩,
⟨some 51, none, .pick (.t 46) (.c (.bool true)) (.t 50)⟩,
⟨some 52, none, .mov (.t 51)⟩,
⟨some 53, some (52, false), .faddr 11 (.t 1)⟩,
⟨some 54, some (52, false), .load 1 false (.t 53)⟩,
⟨some 55, some (52, false), .call 37 [(.shut, (.t 54))] [] 110055000⟩,
⟨some 56, some (52, false), .un .not (.t 55)⟩,
⟨some 57, none, .pick (.t 52) (.c (.bool true)) (.t 56)⟩,
⟨some 58, none, .mov (.t 57)⟩,
⟨some 59, some (58, false), .faddr 12 (.t 1)⟩,
⟨some 60, some (58, false), .load 1 false (.t 59)⟩,
⟨some 61, some (58, false), .call 37 [(.shut, (.t 60))] [] 110061000⟩,
⟨some 62, some (58, false), .un .not (.t 61)⟩,
⟨some 63, none, .pick (.t 58) (.c (.bool true)) (.t 62)⟩,
⟨some 64, none, .mov (.t 63)⟩,
⟨some 65, some (64, false), .faddr 16 (.t 1)⟩,
⟨some 66, some (64, false), .load 3 true (.t 65)⟩,
⟨some 67, some (64, false), .call 38 [(.shut, (.t 66))] [] 110067000⟩,
⟨some 68, some (64, false), .un .not (.t 67)⟩,
⟨some 69, none, .pick (.t 64) (.c (.bool true)) (.t 68)⟩]
def o39_3 : List Opn := [⟨some 2, none, .mov (.c (.bool false))⟩]
def o39_4 : List Opn := [⟨some 3, none, .mov (.c (.int .i64 0))⟩]
def c39 : IFn := ⟨1, [.t 2], [], [],
.seq (.reg o39_1)
(.seq (.seq (.reg o39_2)
(.cond (.t 69) (.seq (.reg o39_3)
(.ret))
(.skip)))
(.seq (.seq (.reg o39_4)
(.block 0 (.loop b39_1)))
k39_1))⟩
def ob40_1_1 : List Opn := [⟨some 6, none, .mov (.t 4)⟩,
⟨some 7, none, .mov (.t 0)⟩,
⟨some 8, none, .len (.t 7)⟩,
⟨some 9, none, .bin .lss (.t 6) (.t 8)⟩]
def ob40_1_2 : List Opn := [⟨some 12, none, .mov (.t 0)⟩,
⟨some 13, none, .mov (.t 4)⟩,
⟨some 14, none, .iaddr 1 (.t 12) (.t 13)⟩,
⟨some 15, none, .load 1 false (.t 14)⟩,
⟨some 16, none, .bin .lss (.t 15) (.c (.int .i64 1))⟩,
⟨some 17, none, .mov (.t 16)⟩,
⟨some 18, some (17, false), .mov (.t 0)⟩,
⟨some 19, some (17, false), .mov (.t 4)⟩,
⟨some 20, some (17, false), .iaddr 1 (.t 18) (.t 19)⟩,
⟨some 21, some (17, false), .load 1 false (.t 20)⟩,
⟨some 22, some (17, false), .bin .gtr (.t 21) (.c (.int .i64 3))⟩,
⟨some 23, none, .pick (.t 17) (.c (.bool true)) (.t 22)⟩,
⟨some 24, none, .mov (.t 23)⟩,
⟨some 25, some (24, false), .mov (.t 0)⟩,
⟨some 26, some (24, false), .mov (.t 4)⟩,
⟨some 27, some (24, false), .iaddr 1 (.t 25) (.t 26)⟩,
⟨some 28, some (24, false), .load 1 false (.t 27)⟩,
⟨some 29, some (24, false), .iaddrA 4 1 (.t 3) (.t 28)⟩,
⟨some 30, some (24, false), .load 1 false (.t 29)⟩,
⟨some 31, none, .pick (.t 24) (.c (.bool true)) (.t 30)⟩]
def ob40_1_3 : List Opn := [⟨some 2, none, .mov (.c (.bool false))⟩]
def ob40_1_4 : List Opn := [⟨some 32, none, .mov (.t 0)⟩,
⟨some 33, none, .mov (.t 4)⟩,
⟨some 34, none, .iaddr 1 (.t 32) (.t 33)⟩,
⟨some 35, none, .load 1 false (.t 34)⟩,
⟨some 36, none, .iaddrA 4 1 (.t 3) (.t 35)⟩,
⟨none, none, .store 1 (.t 36) (.c (.bool true))⟩]
def ob40_1_5 : List Opn := [⟨some 10, none, .mov (.t 4)⟩,
⟨some 11, none, .bin .add (.t 10) (.c (.int .i64 1))⟩,
⟨some 4, none, .mov (.t 11)⟩]
def b40_1 : IC := (.seq (.gh (.keep [0, 3, 4] [100003]))
(.seq (.seq (.reg ob40_1_1)
(.cond (.t 9) (.skip)
(.exit 0)))
(.seq (.block 1 (.seq (.seq (.reg ob40_1_2)
(.cond (.t 31) (.seq (.reg ob40_1_3)
(.ret))
(.skip)))
(.reg ob40_1_4)))
(.reg ob40_1_5))))
def o40_1 : List Opn := [⟨some 2, none, .mov (.c (.bool false))⟩]
def o40_2 : List Opn := [⟨some 5, none, .build [.bool false, .bool false, .bool false, .bool false] []⟩,
⟨some 3, none, .alloc 100003 [.bool false, .bool false, .bool false, .bool false]⟩,
⟨none, none, .store 4 (.t 3) (.t 5)⟩]
def o40_3 : List Opn := [⟨some 4, none, .mov (.c (.int .i64 0))⟩]
def o40_4 : List Opn := [⟨some 37, none, .mov (.t 0)⟩,
⟨some 38, none, .len (.t 37)⟩,
⟨some 39, none, .bin .gtr (.t 38) (.c (.int .i64 0))⟩,
⟨some 2, none, .mov (.t 39)⟩]
def c40 : IFn := ⟨1, [.t 2], [], [],
.seq (.reg o40_1)
(.seq (.reg o40_2)
(.seq (.seq (.reg o40_3)
(.block 0 (.loop b40_1)))
(.seq (.reg o40_4)
(.ret))))⟩
def o41_1 : List Opn := [⟨some 1, none, .box 100001 (.t 0)⟩,
⟨some 2, none, .alloc 100002 [.nul, .nul, .int .i64 0, .nul, .nul, .int .i64 0, .int .i64 0, .int .i64 0, .int .i64 0, .int .i64 0, .int .i64 0, .int .i64 0, .int .i64 0, .int .i64 0, .int .i64 0, .int .i64 0, .str [], .nul, .int .i64 0, .int .i64 0, .int .i64 0, .str [], .str [], .nul, .int .i64 0, .int .i64 0, .int .i64 0, .nul, .nul]⟩,
⟨some 3, none, .mov (.c (.int .i64 0))⟩]
def o41_2 : List Opn := [⟨some 5, none, .faddr 8 (.t 1)⟩,
⟨some 6, none, .load 20 true (.t 5)⟩,
⟨some 4, none, .alloc 100004 [.int .i64 0, .int .i64 0, .int .i64 0, .int .i64 0, .int .i64 0, .int .i64 0, .int .i64 0, .int .i64 0, .str [], .nul, .int .i64 0, .int .i64 0, .int .i64 0, .str [], .str [], .nul, .int .i64 0, .int .i64 0, .int .i64 0, .nul]⟩,
⟨none, none, .store 20 (.t 4) (.t 6)⟩]
def o41_3 : List Opn := [⟨some 9, none, .faddr 0 (.t 4)⟩,
⟨some 10, none, .load 1 false (.t 9)⟩,
⟨some 11, none, .eq false false [.i] (.t 10) (.c (.int .i64 1))⟩,
⟨some 12, none, .mov (.t 11)⟩,
⟨some 13, some (12, true), .faddr 1 (.t 4)⟩,
⟨some 14, some (12, true), .load 1 false (.t 13)⟩,
⟨some 15, some (12, true), .bin .leq (.t 14) (.c (.int .i64 3))⟩,
⟨some 16, none, .pick (.t 12) (.t 15) (.c (.bool false))⟩,
⟨some 8, none, .mov (.t 16)⟩]
def o41_4 : List Opn := [⟨some 17, none, .faddr 8 (.t 1)⟩,
⟨some 18, none, .faddr 1 (.t 17)⟩,
⟨none, none, .store 1 (.t 18) (.c (.int .i64 6))⟩]
def o41_5 : List Opn := [⟨some 20, none, .faddr 0 (.t 4)⟩,
⟨some 21, none, .load 1 false (.t 20)⟩,
⟨some 22, none, .eq false false [.i] (.t 21) (.c (.int .i64 2))⟩,
⟨some 23, none, .mov (.t 22)⟩,
⟨some 24, some (23, false), .faddr 0 (.t 4)⟩,
⟨some 25, some (23, false), .load 1 false (.t 24)⟩,
⟨some 26, some (23, false), .eq false false [.i] (.t 25) (.c (.int .i64 3))⟩,
⟨some 27, none, .pick (.t 23) (.c (.bool true)) (.t 26)⟩,
⟨some 28, none, .mov (.t 27)⟩,
⟨some 29, some (28, true), .faddr 1 (.t 4)⟩,
⟨some 30, some (28, true), .load 1 false (.t 29)⟩,
⟨some 31, some (28, true), .eq false false [.i] (.t 30) (.c (.int .i64 1))⟩,
⟨some 32, none, .pick (.t 28) (.t 31) (.c (.bool false))⟩,
⟨some 19, none, .mov (.t 32)⟩]
def o41_6 : List Opn := [⟨some 33, none, .faddr 8 (.t 1)⟩,
⟨some 34, none, .faddr 1 (.t 33)⟩,
⟨none, none, .store 1 (.t 34) (.c (.int .i64 7))⟩]
def o41_7 : List Opn := [⟨some 7, none, .load 29 true (.t 1)⟩,
⟨none, none, .store 29 (.t 2) (.t 7)⟩,
⟨some 3, none, .mov (.c (.int .i64 7))⟩]
def o41_8 : List Opn := [⟨some 35, none, .load 29 true (.t 1)⟩,
⟨none, none, .store 29 (.t 2) (.t 35)⟩,
⟨some 3, none, .mov (.c (.int .i64 0))⟩]
def c41 : IFn := ⟨1, [.m 2 29 true, .t 3], [], [],
.seq (.reg o41_1)
(.seq (.seq (.reg o41_2)
(.block 0 (.seq (.reg o41_3)
(.cond (.t 8) (.reg o41_4)
(.seq (.reg o41_5)
(.cond (.t 19) (.reg o41_6)
(.seq (.reg o41_7)
(.ret))))))))
(.seq (.reg o41_8)
(.ret)))⟩
def o42_1 : List Opn := [⟨some 4, none, .mov (.c (.bool false))⟩]
def o42_2 : List Opn := [⟨some 5, none, .mov (.t 0)⟩,
⟨some 6, none, .mov (.t 1)⟩,
⟨some 7, none, .call 87 [(.shut, (.t 5)), (.shut, (.t 6))] [] 110007000⟩,
⟨some 8, none, .bin .geq (.t 7) (.c (.int .i64 0))⟩,
⟨some 4, none, .mov (.t 8)⟩]
def c42 : IFn := ⟨2, [.t 4], [], [],
.seq (.reg o42_1)
(.seq (.reg o42_2)
(.ret))⟩
def o43_1 : List Opn := [⟨some 2, none, .mov (.c (.nul))⟩]
def o43_2 : List Opn := [⟨some 3, none, .mov (.t 0)⟩,
⟨some 4, none, .isnl false (.t 3)⟩]
def o43_3 : List Opn := [⟨some 2, none, .mov (.c (.nul))⟩]
def o43_4 : List Opn := [⟨some 5, none, .bslice 100005 1 []⟩,
⟨some 6, none, .mov (.t 0)⟩,
⟨some 7, none, .app 100007 1 8 (.t 5) (.t 6)⟩,
⟨some 2, none, .mov (.t 7)⟩]
def c43 : IFn := ⟨1, [.t 2], [1], [],
.seq (.reg o43_1)
(.seq (.seq (.reg o43_2)
(.cond (.t 4) (.seq (.reg o43_3)
(.ret))
(.skip)))
(.seq (.reg o43_4)
(.ret)))⟩
def o44_1 : List Opn := [⟨some 8, none, .mov (.c (.nul))⟩,
⟨some 9, none, .mov (.c (.int .i64 0))⟩]
def o44_2 : List Opn := [⟨some 14, none, .mov (.t 0)⟩,
⟨some 15, none, .mov (.t 1)⟩,
⟨some 16, none, .mov (.t 3)⟩,
⟨some 17, none, .call 88 [(.shut, (.t 14)), (.shut, (.t 15)), (.shut, (.t 16))] [] 110017000⟩,
⟨some 13, none, .mov (.t 17)⟩,
⟨some 18, none, .ext (.t 13) 0⟩,
⟨some 19, none, .ext (.t 13) 1⟩,
⟨some 10, none, .mov (.t 18)⟩,
⟨some 11, none, .mov (.t 19)⟩]
def o44_3 : List Opn := [⟨some 21, none, .mov (.t 2)⟩,
⟨some 22, none, .call 79 [(.shut, (.t 21))] [] 210022000⟩,
⟨some 23, none, .un .not (.t 22)⟩,
⟨some 20, none, .mov (.t 23)⟩]
def o44_4 : List Opn := [⟨some 8, none, .mov (.c (.nul))⟩,
⟨some 9, none, .mov (.c (.int .i64 1))⟩]
def o44_5 : List Opn := [⟨some 25, none, .mov (.t 11)⟩,
⟨some 26, none, .eq true false [.i] (.t 25) (.c (.int .i64 0))⟩,
⟨some 24, none, .mov (.t 26)⟩]
def o44_6 : List Opn := [⟨some 27, none, .mov (.t 11)⟩,
⟨some 8, none, .mov (.c (.nul))⟩,
⟨some 9, none, .mov (.t 27)⟩]
def o44_7 : List Opn := [⟨some 29, none, .mov (.t 0)⟩,
⟨some 30, none, .mov (.t 10)⟩,
⟨some 31, none, .iaddr 5 (.t 29) (.t 30)⟩,
⟨some 32, none, .faddr 3 (.t 31)⟩,
⟨some 33, none, .load 1 false (.t 32)⟩,
⟨some 34, none, .mov (.t 2)⟩,
⟨some 35, none, .eq false false [.i] (.t 33) (.t 34)⟩,
⟨some 28, none, .mov (.t 35)⟩]
def o44_8 : List Opn := [⟨some 8, none, .mov (.c (.nul))⟩,
⟨some 9, none, .mov (.c (.int .i64 8))⟩]
def o44_9 : List Opn := [⟨some 36, none, .mov (.t 0)⟩,
⟨some 37, none, .call 64 [(.shut, (.t 36))] [(0, 203700)] 810037000⟩,
⟨some 12, none, .mov (.t 37)⟩]
def o44_10 : List Opn := [⟨some 38, none, .mov (.t 12)⟩,
⟨some 39, none, .mov (.t 10)⟩,
⟨some 40, none, .mov (.t 12)⟩,
⟨some 41, none, .mov (.t 10)⟩,
⟨some 42, none, .mov (.t 2)⟩,
⟨some 43, none, .mov (.t 3)⟩,
⟨some 44, none, .iaddr 5 (.t 38) (.t 39)⟩,
⟨some 45, none, .faddr 3 (.t 44)⟩,
⟨none, none, .store 1 (.t 45) (.t 42)⟩,
⟨some 46, none, .iaddr 5 (.t 40) (.t 41)⟩,
⟨some 47, none, .faddr 4 (.t 46)⟩,
⟨none, none, .store 1 (.t 47) (.t 43)⟩]
def o44_11 : List Opn := [⟨some 48, none, .mov (.t 12)⟩,
⟨some 8, none, .mov (.t 48)⟩,
⟨some 9, none, .mov (.c (.int .i64 0))⟩]
def c44 : IFn := ⟨4, [.t 8, .t 9], [], [],
.seq (.reg o44_1)
(.seq (.reg o44_2)
(.seq (.block 0 (.seq (.reg o44_3)
(.cond (.t 20) (.seq (.reg o44_4)
(.ret))
(.seq (.reg o44_5)
(.cond (.t 24) (.seq (.reg o44_6)
(.ret))
(.seq (.reg o44_7)
(.cond (.t 28) (.seq (.reg o44_8)
(.ret))
(.skip))))))))
(.seq (.reg o44_9)
(.seq (.reg o44_10)
(.seq (.reg o44_11)
(.ret))))))⟩
def o45_1 : List Opn := [⟨some 10, none, .mov (.c (.nul))⟩,
⟨some 11, none, .mov (.c (.int .i64 0))⟩]
def o45_2 : List Opn := [⟨some 18, none, .mov (.t 0)⟩,
⟨some 19, none, .mov (.t 1)⟩,
⟨some 20, none, .mov (.t 4)⟩,
⟨some 21, none, .call 88 [(.shut, (.t 18)), (.shut, (.t 19)), (.shut, (.t 20))] [] 110021000⟩,
⟨some 17, none, .mov (.t 21)⟩,
⟨some 22, none, .ext (.t 17) 0⟩,
⟨some 23, none, .ext (.t 17) 1⟩,
⟨some 12, none, .mov (.t 22)⟩,
⟨some 13, none, .mov (.t 23)⟩]
def o45_3 : List Opn := [⟨some 25, none, .mov (.t 3)⟩,
⟨some 26, none, .call 78 [(.shut, (.t 25))] [] 210026000⟩,
⟨some 27, none, .un .not (.t 26)⟩,
⟨some 24, none, .mov (.t 27)⟩]
def o45_4 : List Opn := [⟨some 10, none, .mov (.c (.nul))⟩,
⟨some 11, none, .mov (.c (.int .i64 1))⟩]
def o45_5 : List Opn := [⟨some 29, none, .mov (.t 13)⟩,
⟨some 30, none, .eq true false [.i] (.t 29) (.c (.int .i64 0))⟩,
⟨some 28, none, .mov (.t 30)⟩]
def o45_6 : List Opn := [⟨some 31, none, .mov (.t 13)⟩,
⟨some 10, none, .mov (.c (.nul))⟩,
⟨some 11, none, .mov (.t 31)⟩]
def o45_7 : List Opn := [⟨some 33, none, .mov (.t 0)⟩,
⟨some 34, none, .mov (.t 3)⟩,
⟨some 35, none, .call 89 [(.shut, (.t 33)), (.shut, (.t 34))] [] 610035000⟩,
⟨some 36, none, .bin .geq (.t 35) (.c (.int .i64 0))⟩,
⟨some 32, none, .mov (.t 36)⟩]
def o45_8 : List Opn := [⟨some 10, none, .mov (.c (.nul))⟩,
⟨some 11, none, .mov (.c (.int .i64 8))⟩]
def o45_9 : List Opn := [⟨some 38, none, .mov (.t 0)⟩,
⟨some 39, none, .len (.t 38)⟩,
⟨some 40, none, .eq false false [.i] (.t 39) (.c (.int .i64 8))⟩,
⟨some 37, none, .mov (.t 40)⟩]
def o45_10 : List Opn := [⟨some 10, none, .mov (.c (.nul))⟩,
⟨some 11, none, .mov (.c (.int .i64 6))⟩]
def o45_11 : List Opn := [⟨some 42, none, .mov (.t 0)⟩,
⟨some 43, none, .mov (.t 12)⟩,
⟨some 44, none, .iaddr 5 (.t 42) (.t 43)⟩,
⟨some 45, none, .faddr 0 (.t 44)⟩,
⟨some 46, none, .load 2 true (.t 45)⟩,
⟨some 47, none, .mov (.t 2)⟩,
⟨some 48, none, .call 90 [(.shut, (.t 46)), (.shut, (.t 47))] [] 1010048000⟩,
⟨some 41, none, .mov (.t 48)⟩,
⟨some 49, none, .ext (.t 41) 0⟩,
⟨some 50, none, .ext (.t 41) 1⟩,
⟨some 51, none, .ext (.t 41) 2⟩,
⟨some 14, none, .alloc 100014 [.str [], .str []]⟩,
⟨some 15, none, .alloc 100015 [.str [], .str []]⟩,
⟨none, none, .store 2 (.t 14) (.t 49)⟩,
⟨none, none, .store 2 (.t 15) (.t 50)⟩,
⟨some 13, none, .mov (.t 51)⟩]
def o45_12 : List Opn := [⟨some 52, none, .mov (.t 13)⟩,
⟨some 53, none, .eq true false [.i] (.t 52) (.c (.int .i64 0))⟩]
def o45_13 : List Opn := [⟨some 54, none, .mov (.t 13)⟩,
⟨some 10, none, .mov (.c (.nul))⟩,
⟨some 11, none, .mov (.t 54)⟩]
def o45_14 : List Opn := [⟨some 55, none, .mov (.t 0)⟩,
⟨some 56, none, .call 64 [(.shut, (.t 55))] [(0, 205600)] 1310056000⟩,
⟨some 57, none, .mov (.t 12)⟩,
⟨some 58, none, .bin .add (.t 57) (.c (.int .i64 1))⟩,
⟨some 59, none, .load 2 true (.t 15)⟩,
⟨some 60, none, .mov (.t 3)⟩,
⟨some 61, none, .mov (.t 0)⟩,
⟨some 62, none, .mov (.t 12)⟩,
⟨some 63, none, .iaddr 5 (.t 61) (.t 62)⟩,
⟨some 64, none, .faddr 3 (.t 63)⟩,
⟨some 65, none, .load 1 false (.t 64)⟩,
⟨some 66, none, .mov (.t 4)⟩,
⟨some 67, none, .build [.str [], .str [], .int .i64 0, .int .i64 0, .int .i64 0] [(0, 2, (.t 59)), (2, 1, (.t 60)), (3, 1, (.t 65)), (4, 1, (.t 66))]⟩,
⟨some 68, none, .bslice 100068 5 [(.t 67)]⟩,
⟨some 69, none, .call 91 [(.move 5, (.t 56)), (.shut, (.t 58)), (.move 5, (.t 68))] [(0, 206900)] 1310069000⟩,
⟨some 16, none, .mov (.t 69)⟩]
def o45_15 : List Opn := [⟨some 70, none, .mov (.t 16)⟩,
⟨some 71, none, .mov (.t 12)⟩,
⟨some 72, none, .mov (.t 16)⟩,
⟨some 73, none, .mov (.t 12)⟩,
⟨some 74, none, .load 2 true (.t 14)⟩,
⟨some 75, none, .mov (.t 4)⟩,
⟨some 76, none, .iaddr 5 (.t 70) (.t 71)⟩,
⟨some 77, none, .faddr 0 (.t 76)⟩,
⟨none, none, .store 2 (.t 77) (.t 74)⟩,
⟨some 78, none, .iaddr 5 (.t 72) (.t 73)⟩,
⟨some 79, none, .faddr 4 (.t 78)⟩,
⟨none, none, .store 1 (.t 79) (.t 75)⟩]
def o45_16 : List Opn := [⟨some 80, none, .mov (.t 16)⟩,
⟨some 10, none, .mov (.t 80)⟩,
⟨some 11, none, .mov (.c (.int .i64 0))⟩]
def c45 : IFn := ⟨5, [.t 10, .t 11], [], [],
.seq (.reg o45_1)
(.seq (.reg o45_2)
(.seq (.block 0 (.seq (.reg o45_3)
(.cond (.t 24) (.seq (.reg o45_4)
(.ret))
(.seq (.reg o45_5)
(.cond (.t 28) (.seq (.reg o45_6)
(.ret))
(.seq (.reg o45_7)
(.cond (.t 32) (.seq (.reg o45_8)
(.ret))
(.seq (.reg o45_9)
(.cond (.t 37) (.seq (.reg o45_10)
(.ret))
(.skip))))))))))
(.seq (.reg o45_11)
(.seq (.seq (.reg o45_12)
(.cond (.t 53) (.seq (.reg o45_13)
(.ret))
(.skip)))
(.seq (.dreg o45_14
[(1, 4), (1, 8), (1, 9), (1, 10), (1, 13)])
(.seq (.reg o45_15)
(.seq (.reg o45_16)
(.ret))))))))⟩
def o46_1 : List Opn := [⟨some 8, none, .mov (.c (.nul))⟩,
⟨some 9, none, .mov (.c (.int .i64 0))⟩]
def o46_2 : List Opn := [⟨some 15, none, .mov (.t 0)⟩,
⟨some 16, none, .mov (.t 1)⟩,
⟨some 17, none, .mov (.t 3)⟩,
⟨some 18, none, .call 88 [(.shut, (.t 15)), (.shut, (.t 16)), (.shut, (.t 17))] [] 110018000⟩,
⟨some 14, none, .mov (.t 18)⟩,
⟨some 19, none, .ext (.t 14) 0⟩,
⟨some 20, none, .ext (.t 14) 1⟩,
⟨some 10, none, .mov (.t 19)⟩,
⟨some 11, none, .mov (.t 20)⟩]
def o46_3 : List Opn := [⟨some 21, none, .mov (.t 0)⟩,
⟨some 22, none, .mov (.t 2)⟩,
⟨some 23, none, .call 89 [(.shut, (.t 21)), (.shut, (.t 22))] [] 210023000⟩,
⟨some 12, none, .mov (.t 23)⟩]
def o46_4 : List Opn := [⟨some 25, none, .mov (.t 2)⟩,
⟨some 26, none, .call 78 [(.shut, (.t 25))] [] 310026000⟩,
⟨some 27, none, .un .not (.t 26)⟩,
⟨some 24, none, .mov (.t 27)⟩]
def o46_5 : List Opn := [⟨some 8, none, .mov (.c (.nul))⟩,
⟨some 9, none, .mov (.c (.int .i64 1))⟩]
def o46_6 : List Opn := [⟨some 29, none, .mov (.t 11)⟩,
⟨some 30, none, .eq true false [.i] (.t 29) (.c (.int .i64 0))⟩,
⟨some 28, none, .mov (.t 30)⟩]
def o46_7 : List Opn := [⟨some 31, none, .mov (.t 11)⟩,
⟨some 8, none, .mov (.c (.nul))⟩,
⟨some 9, none, .mov (.t 31)⟩]
def o46_8 : List Opn := [⟨some 33, none, .mov (.t 12)⟩,
⟨some 34, none, .bin .lss (.t 33) (.c (.int .i64 0))⟩,
⟨some 32, none, .mov (.t 34)⟩]
def o46_9 : List Opn := [⟨some 8, none, .mov (.c (.nul))⟩,
⟨some 9, none, .mov (.c (.int .i64 7))⟩]
def o46_10 : List Opn := [⟨some 36, none, .mov (.t 12)⟩,
⟨some 37, none, .mov (.t 10)⟩,
⟨some 38, none, .bin .add (.t 37) (.c (.int .i64 1))⟩,
⟨some 39, none, .eq true false [.i] (.t 36) (.t 38)⟩,
⟨some 40, none, .mov (.t 39)⟩,
⟨some 41, some (40, false), .mov (.t 0)⟩,
⟨some 42, some (40, false), .mov (.t 10)⟩,
⟨some 43, some (40, false), .iaddr 5 (.t 41) (.t 42)⟩,
⟨some 44, some (40, false), .faddr 3 (.t 43)⟩,
⟨some 45, some (40, false), .load 1 false (.t 44)⟩,
⟨some 46, some (40, false), .mov (.t 0)⟩,
⟨some 47, some (40, false), .mov (.t 12)⟩,
⟨some 48, some (40, false), .iaddr 5 (.t 46) (.t 47)⟩,
⟨some 49, some (40, false), .faddr 3 (.t 48)⟩,
⟨some 50, some (40, false), .load 1 false (.t 49)⟩,
⟨some 51, some (40, false), .eq true false [.i] (.t 45) (.t 50)⟩,
⟨some 52, none, .pick (.t 40) (.c (.bool true)) (.t 51)⟩,
⟨some 53, none, .mov (.t 52)⟩,
⟨some 54, some (53, false), .mov (.t 3)⟩,
⟨some 55, some (53, false), .mov (.t 0)⟩,
⟨some 56, some (53, false), .mov (.t 12)⟩,
⟨some 57, some (53, false), .iaddr 5 (.t 55) (.t 56)⟩,
⟨some 58, some (53, false), .faddr 4 (.t 57)⟩,
⟨some 59, some (53, false), .load 1 false (.t 58)⟩,
⟨some 60, some (53, false), .bin .leq (.t 54) (.t 59)⟩,
⟨some 61, none, .pick (.t 53) (.c (.bool true)) (.t 60)⟩,
⟨some 35, none, .mov (.t 61)⟩]
def o46_11 : List Opn := [⟨some 8, none, .mov (.c (.nul))⟩,
⟨some 9, none, .mov (.c (.int .i64 9))⟩]
def o46_12 : List Opn := [⟨some 62, none, .mov (.t 0)⟩,
⟨some 63, none, .call 64 [(.shut, (.t 62))] [(0, 206300)] 1110063000⟩,
⟨some 64, none, .mov (.t 12)⟩,
⟨some 65, none, .mov (.t 12)⟩,
⟨some 66, none, .bin .add (.t 65) (.c (.int .i64 1))⟩,
⟨some 67, none, .call 92 [(.move 5, (.t 63)), (.shut, (.t 64)), (.shut, (.t 66))] [(0, 206700)] 1110067000⟩,
⟨some 13, none, .mov (.t 67)⟩]
def o46_13 : List Opn := [⟨some 68, none, .mov (.t 13)⟩,
⟨some 69, none, .mov (.t 10)⟩,
⟨some 70, none, .mov (.t 13)⟩,
⟨some 71, none, .mov (.t 10)⟩,
⟨some 72, none, .mov (.t 0)⟩,
⟨some 73, none, .mov (.t 12)⟩,
⟨some 74, none, .iaddr 5 (.t 72) (.t 73)⟩,
⟨some 75, none, .faddr 0 (.t 74)⟩,
⟨some 76, none, .faddr 1 (.t 75)⟩,
⟨some 77, none, .load 1 false (.t 76)⟩,
⟨some 78, none, .mov (.t 3)⟩,
⟨some 79, none, .iaddr 5 (.t 68) (.t 69)⟩,
⟨some 80, none, .faddr 0 (.t 79)⟩,
⟨some 81, none, .faddr 1 (.t 80)⟩,
⟨none, none, .store 1 (.t 81) (.t 77)⟩,
⟨some 82, none, .iaddr 5 (.t 70) (.t 71)⟩,
⟨some 83, none, .faddr 4 (.t 82)⟩,
⟨none, none, .store 1 (.t 83) (.t 78)⟩]
def o46_14 : List Opn := [⟨some 84, none, .mov (.t 13)⟩,
⟨some 8, none, .mov (.t 84)⟩,
⟨some 9, none, .mov (.c (.int .i64 0))⟩]
def c46 : IFn := ⟨4, [.t 8, .t 9], [], [],
.seq (.reg o46_1)
(.seq (.reg o46_2)
(.seq (.reg o46_3)
(.seq (.block 0 (.seq (.reg o46_4)
(.cond (.t 24) (.seq (.reg o46_5)
(.ret))
(.seq (.reg o46_6)
(.cond (.t 28) (.seq (.reg o46_7)
(.ret))
(.seq (.reg o46_8)
(.cond (.t 32) (.seq (.reg o46_9)
(.ret))
(.seq (.dreg o46_10
[])
(.cond (.t 35) (.seq (.reg o46_11)
(.ret))
(.skip))))))))))
(.seq (.reg o46_12)
(.seq (.reg o46_13)
(.seq (.reg o46_14)
(.ret)))))))⟩
def o47_1 : List Opn := [⟨some 4, none, .alloc 100004 [.str [], .str [], .int .i64 0, .int .i64 0, .int .i64 0]⟩,
⟨some 5, none, .mov (.c (.bool false))⟩]
def o47_2 : List Opn := [⟨some 7, none, .mov (.t 0)⟩,
⟨some 8, none, .mov (.t 1)⟩,
⟨some 9, none, .call 89 [(.shut, (.t 7)), (.shut, (.t 8))] [] 110009000⟩,
⟨some 6, none, .mov (.t 9)⟩]
def o47_3 : List Opn := [⟨some 10, none, .mov (.t 0)⟩,
⟨some 11, none, .call 29 [(.shut, (.t 10))] [] 210011000⟩,
⟨some 12, none, .un .not (.t 11)⟩,
⟨some 13, none, .mov (.t 12)⟩,
⟨some 14, some (13, false), .mov (.t 6)⟩,
⟨some 15, some (13, false), .bin .lss (.t 14) (.c (.int .i64 0))⟩,
⟨some 16, none, .pick (.t 13) (.c (.bool true)) (.t 15)⟩]
def o47_4 : List Opn := [⟨some 17, none, .build [.str [], .str [], .int .i64 0, .int .i64 0, .int .i64 0] []⟩,
⟨none, none, .store 5 (.t 4) (.t 17)⟩,
⟨some 5, none, .mov (.c (.bool false))⟩]
def o47_5 : List Opn := [⟨some 18, none, .mov (.t 0)⟩,
⟨some 19, none, .mov (.t 6)⟩,
⟨some 20, none, .iaddr 5 (.t 18) (.t 19)⟩,
⟨some 21, none, .load 5 true (.t 20)⟩,
⟨none, none, .store 5 (.t 4) (.t 21)⟩,
⟨some 5, none, .mov (.c (.bool true))⟩]
def c47 : IFn := ⟨2, [.m 4 5 true, .t 5], [], [],
.seq (.reg o47_1)
(.seq (.reg o47_2)
(.seq (.seq (.reg o47_3)
(.cond (.t 16) (.seq (.reg o47_4)
(.ret))
(.skip)))
(.seq (.reg o47_5)
(.ret))))⟩
def ob48_1_1 : List Opn := [⟨some 11, none, .mov (.t 5)⟩,
⟨some 12, none, .mov (.t 0)⟩,
⟨some 13, none, .len (.t 12)⟩,
⟨some 14, none, .bin .lss (.t 11) (.t 13)⟩]
def ob48_1_2 : List Opn := [⟨some 17, none, .mov (.t 0)⟩,
⟨some 18, none, .mov (.t 5)⟩,
⟨some 19, none, .iaddr 1 (.t 17) (.t 18)⟩,
⟨some 20, none, .load 1 false (.t 19)⟩,
⟨some 21, none, .mov (.t 1)⟩,
⟨some 22, none, .mov (.t 5)⟩,
⟨some 23, none, .iaddr 1 (.t 21) (.t 22)⟩,
⟨some 24, none, .load 1 false (.t 23)⟩,
⟨some 25, none, .eq true false [.i] (.t 20) (.t 24)⟩]
def ob48_1_3 : List Opn := [⟨some 4, none, .mov (.c (.bool false))⟩]
def ob48_1_4 : List Opn := [⟨some 15, none, .mov (.t 5)⟩,
⟨some 16, none, .bin .add (.t 15) (.c (.int .i64 1))⟩,
⟨some 5, none, .mov (.t 16)⟩]
def b48_1 : IC := (.seq (.gh (.keep [0, 1, 5] []))
(.seq (.seq (.reg ob48_1_1)
(.cond (.t 14) (.skip)
(.exit 0)))
(.seq (.block 1 (.seq (.dreg ob48_1_2
[])
(.cond (.t 25) (.seq (.reg ob48_1_3)
(.ret))
(.skip))))
(.reg ob48_1_4))))
def o48_1 : List Opn := [⟨some 4, none, .mov (.c (.bool false))⟩]
def o48_2 : List Opn := [⟨some 6, none, .mov (.t 0)⟩,
⟨some 7, none, .len (.t 6)⟩,
⟨some 8, none, .mov (.t 1)⟩,
⟨some 9, none, .len (.t 8)⟩,
⟨some 10, none, .eq true false [.i] (.t 7) (.t 9)⟩]
def o48_3 : List Opn := [⟨some 4, none, .mov (.c (.bool false))⟩]
def o48_4 : List Opn := [⟨some 5, none, .mov (.c (.int .i64 0))⟩]
def o48_5 : List Opn := [⟨some 4, none, .mov (.c (.bool true))⟩]
def c48 : IFn := ⟨2, [.t 4], [], [],
.seq (.reg o48_1)
(.seq (.seq (.reg o48_2)
(.cond (.t 10) (.seq (.reg o48_3)
(.ret))
(.skip)))
(.seq (.seq (.reg o48_4)
(.block 0 (.loop b48_1)))
(.seq (.reg o48_5)
(.ret))))⟩
def ob49_1_1 : List Opn := [⟨some 11, none, .mov (.t 5)⟩,
⟨some 12, none, .mov (.t 0)⟩,
⟨some 13, none, .len (.t 12)⟩,
⟨some 14, none, .bin .lss (.t 11) (.t 13)⟩]
def ob49_1_2 : List Opn := [⟨some 17, none, .mov (.t 0)⟩,
⟨some 18, none, .mov (.t 5)⟩,
⟨some 19, none, .iaddr 5 (.t 17) (.t 18)⟩,
⟨some 20, none, .load 5 true (.t 19)⟩,
⟨some 21, none, .mov (.t 1)⟩,
⟨some 22, none, .mov (.t 5)⟩,
⟨some 23, none, .iaddr 5 (.t 21) (.t 22)⟩,
⟨some 24, none, .load 5 true (.t 23)⟩,
⟨some 25, none, .eq true true [.s, .s, .i, .i, .i] (.t 20) (.t 24)⟩]
def ob49_1_3 : List Opn := [⟨some 4, none, .mov (.c (.bool false))⟩]
def ob49_1_4 : List Opn := [⟨some 15, none, .mov (.t 5)⟩,
⟨some 16, none, .bin .add (.t 15) (.c (.int .i64 1))⟩,
⟨some 5, none, .mov (.t 16)⟩]
def b49_1 : IC := (.seq (.gh (.keep [0, 1, 5] []))
(.seq (.seq (.reg ob49_1_1)
(.cond (.t 14) (.skip)
(.exit 0)))
(.seq (.block 1 (.seq (.dreg ob49_1_2
[])
(.cond (.t 25) (.seq (.reg ob49_1_3)
(.ret))
(.skip))))
(.reg ob49_1_4))))
def o49_1 : List Opn := [⟨some 4, none, .mov (.c (.bool false))⟩]
def o49_2 : List Opn := [⟨some 6, none, .mov (.t 0)⟩,
⟨some 7, none, .len (.t 6)⟩,
⟨some 8, none, .mov (.t 1)⟩,
⟨some 9, none, .len (.t 8)⟩,
⟨some 10, none, .eq true false [.i] (.t 7) (.t 9)⟩]
def o49_3 : List Opn := [⟨some 4, none, .mov (.c (.bool false))⟩]
def o49_4 : List Opn := [⟨some 5, none, .mov (.c (.int .i64 0))⟩]
def o49_5 : List Opn := [⟨some 4, none, .mov (.c (.bool true))⟩]
def c49 : IFn := ⟨2, [.t 4], [], [],
.seq (.reg o49_1)
(.seq (.seq (.reg o49_2)
(.cond (.t 10) (.seq (.reg o49_3)
(.ret))
(.skip)))
(.seq (.seq (.reg o49_4)
(.block 0 (.loop b49_1)))
(.seq (.reg o49_5)
(.ret))))⟩
def ob50_1_1 : List Opn := [⟨some 11, none, .mov (.t 5)⟩,
⟨some 12, none, .mov (.t 0)⟩,
⟨some 13, none, .len (.t 12)⟩,
⟨some 14, none, .bin .lss (.t 11) (.t 13)⟩]
def ob50_1_2 : List Opn := [⟨some 17, none, .mov (.t 0)⟩,
⟨some 18, none, .mov (.t 5)⟩,
⟨some 19, none, .iaddr 5 (.t 17) (.t 18)⟩,
⟨some 20, none, .load 5 true (.t 19)⟩,
⟨some 21, none, .mov (.t 1)⟩,
⟨some 22, none, .mov (.t 5)⟩,
⟨some 23, none, .iaddr 5 (.t 21) (.t 22)⟩,
⟨some 24, none, .load 5 true (.t 23)⟩,
⟨some 25, none, .eq true true [.i, .i, .i, .i, .i] (.t 20) (.t 24)⟩]
def ob50_1_3 : List Opn := [⟨some 4, none, .mov (.c (.bool false))⟩]
def ob50_1_4 : List Opn := [⟨some 15, none, .mov (.t 5)⟩,
⟨some 16, none, .bin .add (.t 15) (.c (.int .i64 1))⟩,
⟨some 5, none, .mov (.t 16)⟩]
def b50_1 : IC := (.seq (.gh (.keep [0, 1, 5] []))
(.seq (.seq (.reg ob50_1_1)
(.cond (.t 14) (.skip)
(.exit 0)))
(.seq (.block 1 (.seq (.dreg ob50_1_2
[])
(.cond (.t 25) (.seq (.reg ob50_1_3)
(.ret))
(.skip))))
(.reg ob50_1_4))))
def o50_1 : List Opn := [⟨some 4, none, .mov (.c (.bool false))⟩]
def o50_2 : List Opn := [⟨some 6, none, .mov (.t 0)⟩,
⟨some 7, none, .len (.t 6)⟩,
⟨some 8, none, .mov (.t 1)⟩,
⟨some 9, none, .len (.t 8)⟩,
⟨some 10, none, .eq true false [.i] (.t 7) (.t 9)⟩]
def o50_3 : List Opn := [⟨some 4, none, .mov (.c (.bool false))⟩]
def o50_4 : List Opn := [⟨some 5, none, .mov (.c (.int .i64 0))⟩]
def o50_5 : List Opn := [⟨some 4, none, .mov (.c (.bool true))⟩]
def c50 : IFn := ⟨2, [.t 4], [], [],
.seq (.reg o50_1)
(.seq (.seq (.reg o50_2)
(.cond (.t 10) (.seq (.reg o50_3)
(.ret))
(.skip)))
(.seq (.seq (.reg o50_4)
(.block 0 (.loop b50_1)))
(.seq (.reg o50_5)
(.ret))))⟩
def ob51_1_1 : List Opn := [⟨some 13, none, .mov (.t 5)⟩,
⟨some 14, none, .faddr 9 (.t 2)⟩,
⟨some 15, none, .load 1 false (.t 14)⟩,
⟨some 16, none, .len (.t 15)⟩,
⟨some 17, none, .bin .lss (.t 13) (.t 16)⟩]
def ob51_1_2 : List Opn := [⟨some 20, none, .faddr 9 (.t 2)⟩,
⟨some 21, none, .load 1 false (.t 20)⟩,
⟨some 22, none, .mov (.t 5)⟩,
⟨some 23, none, .iaddr 1 (.t 21) (.t 22)⟩,
⟨some 24, none, .load 1 false (.t 23)⟩,
⟨some 25, none, .faddr 9 (.t 3)⟩,
⟨some 26, none, .load 1 false (.t 25)⟩,
⟨some 27, none, .mov (.t 5)⟩,
⟨some 28, none, .iaddr 1 (.t 26) (.t 27)⟩,
⟨some 29, none, .load 1 false (.t 28)⟩,
⟨some 30, none, .eq true false [.s] (.t 24) (.t 29)⟩]
def ob51_1_3 : List Opn := [⟨some 4, none, .mov (.c (.bool false))⟩]
def ob51_1_4 : List Opn := [⟨some 18, none, .mov (.t 5)⟩,
⟨some 19, none, .bin .add (.t 18) (.c (.int .i64 1))⟩,
⟨some 5, none, .mov (.t 19)⟩]
def b51_1 : IC := (.seq (.gh (.keep [2, 3, 5] [100002, 100003]))
(.seq (.seq (.reg ob51_1_1)
(.cond (.t 17) (.skip)
(.exit 0)))
(.seq (.block 1 (.seq (.dreg ob51_1_2
[])
(.cond (.t 30) (.seq (.reg ob51_1_3)
(.ret))
(.skip))))
(.reg ob51_1_4))))
def o51_1 : List Opn := [⟨some 2, none, .box 100002 (.t 0)⟩,
⟨some 3, none, .box 100003 (.t 1)⟩,
⟨some 4, none, .mov (.c (.bool false))⟩]
def o51_2 : List Opn := [⟨some 6, none, .faddr 9 (.t 2)⟩,
⟨some 7, none, .load 1 false (.t 6)⟩,
⟨some 8, none, .len (.t 7)⟩,
⟨some 9, none, .faddr 9 (.t 3)⟩,
⟨some 10, none, .load 1 false (.t 9)⟩,
⟨some 11, none, .len (.t 10)⟩,
⟨some 12, none, .eq true false [.i] (.t 8) (.t 11)⟩]
def o51_3 : List Opn := [⟨some 4, none, .mov (.c (.bool false))⟩]
def o51_4 : List Opn := [⟨some 5, none, .mov (.c (.int .i64 0))⟩]
def o51_5 : List Opn := [⟨some 31, none, .faddr 0 (.t 2)⟩,
⟨some 32, none, .load 1 false (.t 31)⟩,
⟨some 33, none, .faddr 0 (.t 3)⟩,
⟨some 34, none, .load 1 false (.t 33)⟩,
⟨some 35, none, .eq false false [.i] (.t 32) (.t 34)⟩,
⟨some 36, none, .mov (.t 35)⟩,
⟨some 37, some (36, true), .faddr 1 (.t 2)⟩,
⟨some 38, some (36, true), .load 1 false (.t 37)⟩,
⟨some 39, some (36, true), .faddr 1 (.t 3)⟩,
⟨some 40, some (36, true), .load 1 false (.t 39)⟩,
⟨some 41, some (36, true), .eq false false [.i] (.t 38) (.t 40)⟩,
⟨some 42, none, .pick (.t 36) (.t 41) (.c (.bool false))⟩,
⟨some 43, none, .mov (.t 42)⟩,
⟨some 44, some (43, true), .faddr 2 (.t 2)⟩,
⟨some 45, some (43, true), .load 1 false (.t 44)⟩,
⟨some 46, some (43, true), .faddr 2 (.t 3)⟩,
⟨some 47, some (43, true), .load 1 false (.t 46)⟩,
⟨some 48, some (43, true), .eq false false [.i] (.t 45) (.t 47)⟩,
⟨some 49, none, .pick (.t 43) (.t 48) (.c (.bool false))⟩,
⟨some 50, none, .mov (.t 49)⟩,
⟨some 51, some (50, true), .faddr 3 (.t 2)⟩,
⟨some 52, some (50, true), .load 1 false (.t 51)⟩,
⟨some 53, some (50, true), .faddr 3 (.t 3)⟩,
⟨some 54, some (50, true), .load 1 false (.t 53)⟩,
⟨some 55, some (50, true), .eq false false [.i] (.t 52) (.t 54)⟩,
⟨some 56, none, .pick (.t 50) (.t 55) (.c (.bool false))⟩,
⟨some 57, none, .mov (.t 56)⟩,
⟨some 58, some (57, true), .faddr 4 (.t 2)⟩,
⟨some 59, some (57, true), .load 1 false (.t 58)⟩,
⟨some 60, some (57, true), .faddr 4 (.t 3)⟩,
⟨some 61, some (57, true), .load 1 false (.t 60)⟩,
⟨some 62, some (57, true), .eq false false [.i] (.t 59) (.t 61)⟩,
⟨some 63, none, .pick (.t 57) (.t 62) (.c (.bool false))⟩,
⟨some 64, none, .mov (.t 63)⟩,
⟨some 65, some (64, true), .faddr 5 (.t 2)⟩,
⟨some 66, some (64, true), .load 1 false (.t 65)⟩,
⟨some 67, some (64, true), .faddr 5 (.t 3)⟩,
⟨some 68, some (64, true), .load 1 false (.t 67)⟩,
⟨some 69, some (64, true), .eq false false [.i] (.t 66) (.t 68)⟩,
⟨some 70, none, .pick (.t 64) (.t 69) (.c (.bool false))⟩,
⟨some 71, none, .mov (.t 70)⟩,
⟨some 72, some (71, true), .faddr 6 (.t 2)⟩,
⟨some 73, some (71, true), .load 1 false (.t 72)⟩,
⟨some 74, some (71, true), .faddr 6 (.t 3)⟩,
⟨some 75, some (71, true), .load 1 false (.t 74)⟩,
⟨some 76, some (71, true), .eq false false [.i] (.t 73) (.t 75)⟩,
⟨some 77, none, .pick (.t 71) (.t 76) (.c (.bool false))⟩,
⟨some 78, none, .mov (.t 77)⟩,
⟨some 79, some (78, true), .faddr 7 (.t 2)⟩,
⟨some 80, some (78, true), .load 1 false (.t 79)⟩,
⟨some 81, some (78, true), .faddr 7 (.t 3)⟩,
⟨some 82, some (78, true), .load 1 false (.t 81)⟩,
⟨some 83, some (78, true), .eq false false [.i] (.t 80) (.t 82)⟩,
⟨some 84, none, .pick (.t 78) (.t 83) (.c (.bool false))⟩,
⟨some 85, none, .mov (.t 84)⟩,
⟨some 86, some (85, true), .faddr 8 (.t 2)⟩,
⟨some 87, some (85, true), .load 1 false (.t 86)⟩,
⟨some 88, some (85, true), .faddr 8 (.t 3)⟩,
⟨some 89, some (85, true), .load 1 false (.t 88)⟩,
⟨some 90, some (85, true), .eq false false [.s] (.t 87) (.t 89)⟩,
⟨some 91, none, .pick (.t 85) (.t 90) (.c (.bool false))⟩,
⟨some 92, none, .mov (.t 91)⟩,
⟨some 93, some (92, true), .faddr 10 (.t 2)⟩,
⟨some 94, some (92, true), .load 1 false (.t 93)⟩,
⟨some 95, some (92, true), .faddr 10 (.t 3)⟩,
⟨some 96, some (92, true), .load 1 false (.t 95)⟩,
⟨some 97, some (92, true), .eq false false [.i] (.t 94) (.t 96)⟩,
⟨some 98, none, .pick (.t 92) (.t 97) (.c (.bool false))⟩,
⟨some 99, none, .mov (.t 98)⟩,
⟨some 100, some (99, true), .faddr 11 (.t 2)⟩,
⟨some 101, some (99, true), .load 1 false (.t 100)⟩,
⟨some 102, some (99, true), .faddr 11 (.t 3)⟩,
⟨some 103, some (99, true), .load 1 false (.t 102)⟩,
⟨some 104, some (99, true), .eq false false [.i] (.t 101) (.t 103)⟩,
⟨some 105, none, .pick (.t 99) (.t 104) (.c (.bool false))⟩,
⟨some 106, none, .mov (.t 105)⟩,
⟨some 107, some (106, true), .faddr 12 (.t 2)⟩,
⟨some 108, some (106, true), .load 1 false (.t 107)⟩,
⟨some 109, some (106, true), .faddr 12 (.t 3)⟩,
⟨some 110, some (106, true), .load 1 false (.t 109)⟩,
⟨some 111, some (106, true), .eq false false [.i] (.t 108) (.t 110)⟩,
⟨some 112, none, .pick (.t 106) (.t 111) (.c (.bool false))⟩,
⟨some 113, none, .mov (.t 112)⟩,
⟨some 114, some (113, true), .faddr 13 (.t 2)⟩,
⟨some 115, some (113, true), .load 2 true (.t 114)⟩,
⟨some 116, some (113, true), .faddr 13 (.t 3)⟩,
⟨some 117, some (113, true), .load 2 true (.t 116)⟩,
⟨some 118, some (113, true), .eq false true [.s, .s] (.t 115) (.t 117)⟩,
⟨some 119, none, .pick (.t 113) (.t 118) (.c (.bool false))⟩,
⟨some 120, none, .mov (.t 119)⟩,
⟨some 121, some (120, true), .faddr 15 (.t 2)⟩,
⟨some 122, some (120, true), .load 1 false (.t 121)⟩,
⟨some 123, some (120, true), .faddr 15 (.t 3)⟩,
⟨some 124, some (120, true), .load 1 false (.t 123)⟩,
⟨some 125, some (120, true), .call 48 [(.shut, (.t 122)), (.shut, (.t 124))] [] 810125000⟩,
⟨some 126, none, .pick (.t 120) (.t 125) (.c (.bool false))⟩,
⟨some 127, none, .mov (.t 126)⟩,
⟨some 128, some (127, true), .faddr 16 (.t 2)⟩,
⟨some 129, some (127, true), .load 3 true (.t 128)⟩,
⟨some 130, some (127, true), .faddr 16 (.t 3)⟩,
⟨some 131, some (127, true), .load 3 true (.t 130)⟩,
⟨some 132, some (127, true), .eq false true [.i, .i, .i] (.t 129) (.t 131)⟩,
⟨some 133, none, .pick (.t 127) (.t 132) (.c (.bool false))⟩,
⟨some 134, none, .mov (.t 133)⟩,
⟨some 135, some (134, true), .faddr 19 (.t 2)⟩,
⟨some 136, some (134, true), .load 1 false (.t 135)⟩,
⟨some 137, some (134, true), .faddr 19 (.t 3)⟩,
⟨some 138, some (134, true), .load 1 false (.t 137)⟩,
⟨some 139, some (134, true), .call 48 [(.shut, (.t 136)), (.shut, (.t 138))] [] 810139000⟩,
⟨some 140, none, .pick (.t 134) (.t 139) (.c (.bool false))⟩,
⟨some 4, none, .mov (.t 140)⟩]
def c51 : IFn := ⟨2, [.t 4], [], [],
.seq (.reg o51_1)
(.seq (.seq (.reg o51_2)
(.cond (.t 12) (.seq (.reg o51_3)
(.ret))
(.skip)))
(.seq (.seq (.reg o51_4)
(.block 0 (.loop b51_1)))
(.seq (.reg o51_5)
(.ret))))⟩
def o52_1 : List Opn := [⟨some 12, none, .mov (.c (.nul))⟩,
⟨some 13, none, .mov (.c (.int .i64 0))⟩]
def o52_2 : List Opn := [⟨some 24, none, .mov (.t 0)⟩,
⟨some 25, none, .call 35 [(.shut, (.t 24))] [] 110025000⟩,
⟨some 26, none, .un .not (.t 25)⟩,
⟨some 27, none, .mov (.t 26)⟩,
⟨some 28, some (27, false), .mov (.t 5)⟩,
⟨some 29, some (27, false), .call 85 [(.shut, (.t 28))] [] 110029000⟩,
⟨some 30, some (27, false), .un .not (.t 29)⟩,
⟨some 31, none, .pick (.t 27) (.c (.bool true)) (.t 30)⟩,
⟨some 32, none, .mov (.t 31)⟩,
⟨some 33, some (32, false), .mov (.t 1)⟩,
⟨some 34, some (32, false), .eq false false [.i] (.t 33) (.c (.int .i64 0))⟩,
⟨some 35, some (32, false), .mov (.t 34)⟩,
⟨some 36, some (35, true), .mov (.t 3)⟩,
⟨some 37, some (35, true), .bin .lss (.t 36) (.c (.int .i64 1))⟩,
⟨some 38, some (35, true), .mov (.t 37)⟩,
⟨some 39, some (38, false), .mov (.t 3)⟩,
⟨some 40, some (38, false), .bin .gtr (.t 39) (.c (.int .i64 3))⟩,
⟨some 41, some (35, true), .pick (.t 38) (.c (.bool true)) (.t 40)⟩,
⟨some 42, some (32, false), .pick (.t 35) (.t 41) (.c (.bool false))⟩,
⟨some 43, none, .pick (.t 32) (.c (.bool true)) (.t 42)⟩,
⟨some 44, none, .mov (.t 43)⟩,
⟨some 45, some (44, false), .mov (.t 3)⟩,
⟨some 46, some (44, false), .call 85 [(.shut, (.t 45))] [] 110046000⟩,
⟨some 47, some (44, false), .un .not (.t 46)⟩,
⟨some 48, none, .pick (.t 44) (.c (.bool true)) (.t 47)⟩]
def o52_3 : List Opn := [⟨some 12, none, .mov (.c (.nul))⟩,
⟨some 13, none, .mov (.c (.int .i64 1))⟩]
def o52_4 : List Opn := [⟨some 49, none, .mov (.t 0)⟩,
⟨some 50, none, .mov (.t 2)⟩,
⟨some 51, none, .call 53 [(.shut, (.t 49)), (.shut, (.t 50))] [] 310051000⟩,
⟨some 14, none, .mov (.t 51)⟩]
def o52_5 : List Opn := [⟨some 52, none, .mov (.t 14)⟩,
⟨some 53, none, .bin .lss (.t 52) (.c (.int .i64 0))⟩]
def o52_6 : List Opn := [⟨some 12, none, .mov (.c (.nul))⟩,
⟨some 13, none, .mov (.c (.int .i64 7))⟩]
def o52_7 : List Opn := [⟨some 54, none, .mov (.t 0)⟩,
⟨some 55, none, .mov (.t 14)⟩,
⟨some 56, none, .iaddr 5 (.t 54) (.t 55)⟩,
⟨some 57, none, .load 5 true (.t 56)⟩,
⟨some 15, none, .alloc 100015 [.str [], .str [], .int .i64 0, .int .i64 0, .int .i64 0]⟩,
⟨none, none, .store 5 (.t 15) (.t 57)⟩]
def o52_8 : List Opn := [⟨some 58, none, .mov (.t 5)⟩,
⟨some 59, none, .faddr 4 (.t 15)⟩,
⟨some 60, none, .load 1 false (.t 59)⟩,
⟨some 61, none, .bin .leq (.t 58) (.t 60)⟩]
def o52_9 : List Opn := [⟨some 12, none, .mov (.c (.nul))⟩,
⟨some 13, none, .mov (.c (.int .i64 9))⟩]
def o52_10 : List Opn := [⟨some 62, none, .load 5 true (.t 15)⟩,
⟨some 16, none, .alloc 100016 [.str [], .str [], .int .i64 0, .int .i64 0, .int .i64 0]⟩,
⟨none, none, .store 5 (.t 16) (.t 62)⟩]
def o52_11 : List Opn := [⟨some 63, none, .mov (.t 5)⟩,
⟨some 64, none, .faddr 4 (.t 16)⟩,
⟨none, none, .store 1 (.t 64) (.t 63)⟩]
def o52_12 : List Opn := [⟨some 65, none, .mov (.t 1)⟩]
def o52_13 : List Opn := [⟨some 67, none, .eq false false [.i] (.t 65) (.c (.int .i64 0))⟩,
⟨some 66, none, .mov (.t 67)⟩]
def o52_14 : List Opn := [⟨some 68, none, .faddr 3 (.t 15)⟩,
⟨some 69, none, .load 1 false (.t 68)⟩,
⟨some 70, none, .mov (.t 3)⟩,
⟨some 71, none, .eq false false [.i] (.t 69) (.t 70)⟩]
def o52_15 : List Opn := [⟨some 12, none, .mov (.c (.nul))⟩,
⟨some 13, none, .mov (.c (.int .i64 8))⟩]
def o52_16 : List Opn := [⟨some 72, none, .mov (.t 3)⟩,
⟨some 73, none, .faddr 3 (.t 16)⟩,
⟨none, none, .store 1 (.t 73) (.t 72)⟩]
def o52_17 : List Opn := [⟨some 74, none, .mov (.t 0)⟩,
⟨some 75, none, .mov (.t 2)⟩,
⟨some 76, none, .load 5 true (.t 16)⟩,
⟨some 77, none, .bslice 100077 5 [(.t 76)]⟩,
⟨some 78, none, .call 93 [(.shut, (.t 74)), (.shut, (.t 75)), (.shut, (.t 77))] [] 1610078000⟩,
⟨some 12, none, .mov (.t 78)⟩,
⟨some 13, none, .mov (.c (.int .i64 0))⟩]
def o52_18 : List Opn := [⟨some 80, none, .eq false false [.i] (.t 65) (.c (.int .i64 1))⟩,
⟨some 79, none, .mov (.t 80)⟩]
def o52_19 : List Opn := [⟨some 81, none, .mov (.t 0)⟩,
⟨some 82, none, .mov (.t 3)⟩,
⟨some 83, none, .call 53 [(.shut, (.t 81)), (.shut, (.t 82))] [] 1810083000⟩,
⟨some 84, none, .bin .geq (.t 83) (.c (.int .i64 0))⟩]
def o52_20 : List Opn := [⟨some 12, none, .mov (.c (.nul))⟩,
⟨some 13, none, .mov (.c (.int .i64 8))⟩]
def o52_21 : List Opn := [⟨some 85, none, .mov (.t 0)⟩,
⟨some 86, none, .len (.t 85)⟩,
⟨some 87, none, .bin .gtr (.t 86) (.c (.int .i64 7))⟩]
def o52_22 : List Opn := [⟨some 12, none, .mov (.c (.nul))⟩,
⟨some 13, none, .mov (.c (.int .i64 6))⟩]
def o52_23 : List Opn := [⟨some 89, none, .faddr 0 (.t 15)⟩,
⟨some 90, none, .load 2 true (.t 89)⟩,
⟨some 91, none, .mov (.t 4)⟩,
⟨some 92, none, .call 94 [(.shut, (.t 90)), (.shut, (.t 91))] [] 2210092000⟩,
⟨some 88, none, .mov (.t 92)⟩,
⟨some 93, none, .ext (.t 88) 0⟩,
⟨some 94, none, .ext (.t 88) 1⟩,
⟨some 95, none, .ext (.t 88) 2⟩,
⟨some 17, none, .alloc 100017 [.str [], .str []]⟩,
⟨some 18, none, .alloc 100018 [.str [], .str []]⟩,
⟨none, none, .store 2 (.t 17) (.t 93)⟩,
⟨none, none, .store 2 (.t 18) (.t 94)⟩,
⟨some 19, none, .mov (.t 95)⟩]
def o52_24 : List Opn := [⟨some 96, none, .mov (.t 19)⟩,
⟨some 97, none, .eq true false [.i] (.t 96) (.c (.int .i64 0))⟩]
def o52_25 : List Opn := [⟨some 98, none, .mov (.t 19)⟩,
⟨some 12, none, .mov (.c (.nul))⟩,
⟨some 13, none, .mov (.t 98)⟩]
def o52_26 : List Opn := [⟨some 99, none, .load 5 true (.t 16)⟩,
⟨some 20, none, .alloc 100020 [.str [], .str [], .int .i64 0, .int .i64 0, .int .i64 0]⟩,
⟨none, none, .store 5 (.t 20) (.t 99)⟩]
def o52_27 : List Opn := [⟨some 100, none, .load 2 true (.t 17)⟩,
⟨some 101, none, .load 2 true (.t 18)⟩,
⟨some 102, none, .mov (.t 3)⟩,
⟨some 103, none, .faddr 0 (.t 16)⟩,
⟨none, none, .store 2 (.t 103) (.t 100)⟩,
⟨some 104, none, .faddr 0 (.t 20)⟩,
⟨none, none, .store 2 (.t 104) (.t 101)⟩,
⟨some 105, none, .faddr 2 (.t 20)⟩,
⟨none, none, .store 1 (.t 105) (.t 102)⟩]
def o52_28 : List Opn := [⟨some 106, none, .mov (.t 0)⟩,
⟨some 107, none, .mov (.t 2)⟩,
⟨some 108, none, .load 5 true (.t 16)⟩,
⟨some 109, none, .load 5 true (.t 20)⟩,
⟨some 110, none, .bslice 100110 5 [(.t 108), (.t 109)]⟩,
⟨some 111, none, .call 93 [(.shut, (.t 106)), (.shut, (.t 107)), (.shut, (.t 110))] [] 2710111000⟩,
⟨some 12, none, .mov (.t 111)⟩,
⟨some 13, none, .mov (.c (.int .i64 0))⟩]
def o52_29 : List Opn := [⟨some 112, none, .mov (.t 0)⟩,
⟨some 113, none, .mov (.t 3)⟩,
⟨some 114, none, .call 53 [(.shut, (.t 112)), (.shut, (.t 113))] [] 2810114000⟩,
⟨some 115, none, .bin .lss (.t 114) (.c (.int .i64 0))⟩]
def o52_30 : List Opn := [⟨some 12, none, .mov (.c (.nul))⟩,
⟨some 13, none, .mov (.c (.int .i64 7))⟩]
def o52_31 : List Opn := [⟨some 116, none, .mov (.t 0)⟩,
⟨some 117, none, .mov (.t 0)⟩,
⟨some 118, none, .mov (.t 3)⟩,
⟨some 119, none, .call 53 [(.shut, (.t 117)), (.shut, (.t 118))] [] 3010119000⟩,
⟨some 120, none, .iaddr 5 (.t 116) (.t 119)⟩,
⟨some 121, none, .load 5 true (.t 120)⟩,
⟨some 21, none, .alloc 100021 [.str [], .str [], .int .i64 0, .int .i64 0, .int .i64 0]⟩,
⟨none, none, .store 5 (.t 21) (.t 121)⟩]
def o52_32 : List Opn := [⟨some 123, none, .faddr 0 (.t 15)⟩,
⟨some 124, none, .load 2 true (.t 123)⟩,
⟨some 125, none, .faddr 0 (.t 21)⟩,
⟨some 126, none, .load 2 true (.t 125)⟩,
⟨some 127, none, .call 95 [(.shut, (.t 124)), (.shut, (.t 126))] [] 3110127000⟩,
⟨some 122, none, .mov (.t 127)⟩,
⟨some 128, none, .ext (.t 122) 0⟩,
⟨some 129, none, .ext (.t 122) 1⟩,
⟨some 22, none, .alloc 100022 [.str [], .str []]⟩,
⟨none, none, .store 2 (.t 22) (.t 128)⟩,
⟨some 23, none, .mov (.t 129)⟩]
def o52_33 : List Opn := [⟨some 130, none, .mov (.t 23)⟩,
⟨some 131, none, .eq true false [.i] (.t 130) (.c (.int .i64 0))⟩,
⟨some 132, none, .mov (.t 131)⟩,
⟨some 133, some (132, false), .faddr 3 (.t 15)⟩,
⟨some 134, some (132, false), .load 1 false (.t 133)⟩,
⟨some 135, some (132, false), .faddr 3 (.t 21)⟩,
⟨some 136, some (132, false), .load 1 false (.t 135)⟩,
⟨some 137, some (132, false), .eq true false [.i] (.t 134) (.t 136)⟩,
⟨some 138, none, .pick (.t 132) (.c (.bool true)) (.t 137)⟩,
⟨some 139, none, .mov (.t 138)⟩,
⟨some 140, some (139, false), .mov (.t 5)⟩,
⟨some 141, some (139, false), .faddr 4 (.t 21)⟩,
⟨some 142, some (139, false), .load 1 false (.t 141)⟩,
⟨some 143, some (139, false), .bin .leq (.t 140) (.t 142)⟩,
⟨some 144, none, .pick (.t 139) (.c (.bool true)) (.t 143)⟩]
def o52_34 : List Opn := [⟨some 12, none, .mov (.c (.nul))⟩,
⟨some 13, none, .mov (.c (.int .i64 9))⟩]
def o52_35 : List Opn := [⟨some 145, none, .load 2 true (.t 22)⟩,
⟨some 146, none, .faddr 0 (.t 16)⟩,
⟨none, none, .store 2 (.t 146) (.t 145)⟩]
def o52_36 : List Opn := [⟨some 147, none, .mov (.t 0)⟩,
⟨some 148, none, .mov (.t 3)⟩,
⟨some 149, none, .call 93 [(.shut, (.t 147)), (.shut, (.t 148)), (.shut, (.c (.nul)))] [] 3510149000⟩,
⟨some 150, none, .mov (.t 2)⟩,
⟨some 151, none, .load 5 true (.t 16)⟩,
⟨some 152, none, .bslice 100152 5 [(.t 151)]⟩,
⟨some 153, none, .call 93 [(.shut, (.t 149)), (.shut, (.t 150)), (.shut, (.t 152))] [] 3510153000⟩,
⟨some 12, none, .mov (.t 153)⟩,
⟨some 13, none, .mov (.c (.int .i64 0))⟩]
def c52 : IFn := ⟨6, [.t 12, .t 13], [], [],
.seq (.reg o52_1)
(.seq (.seq (.reg o52_2)
(.cond (.t 48) (.seq (.reg o52_3)
(.ret))
(.skip)))
(.seq (.reg o52_4)
(.seq (.seq (.reg o52_5)
(.cond (.t 53) (.seq (.reg o52_6)
(.ret))
(.skip)))
(.seq (.reg o52_7)
(.seq (.seq (.reg o52_8)
(.cond (.t 61) (.seq (.reg o52_9)
(.ret))
(.skip)))
(.seq (.reg o52_10)
(.seq (.reg o52_11)
(.seq (.seq (.reg o52_12)
(.block 0 (.seq (.reg o52_13)
(.cond (.t 66) (.seq (.seq (.reg o52_14)
(.cond (.t 71) (.seq (.reg o52_15)
(.ret))
(.skip)))
(.seq (.reg o52_16)
(.seq (.reg o52_17)
(.ret))))
(.seq (.reg o52_18)
(.cond (.t 79) (.seq (.seq (.reg o52_19)
(.cond (.t 84) (.seq (.reg o52_20)
(.ret))
(.skip)))
(.seq (.seq (.reg o52_21)
(.cond (.t 87) (.seq (.reg o52_22)
(.ret))
(.skip)))
(.seq (.reg o52_23)
(.seq (.seq (.reg o52_24)
(.cond (.t 97) (.seq (.reg o52_25)
(.ret))
(.skip)))
(.seq (.reg o52_26)
(.seq (.dreg o52_27
[(1, 4)])
(.seq (.reg o52_28)
(.ret))))))))
(.skip)))))))
(.seq (.seq (.reg o52_29)
(.cond (.t 115) (.seq (.reg o52_30)
(.ret))
(.skip)))
(.seq (.reg o52_31)
(.seq (.reg o52_32)
(.seq (.seq (.reg o52_33)
(.cond (.t 144) (.seq (.reg o52_34)
(.ret))
(.skip)))
(.seq (.reg o52_35)
(.seq (.dreg o52_36
[(2, 4), (2, 5)])
(.ret)))))))))))))))⟩
def ob53_1_1 : List Opn := [⟨some 6, none, .mov (.t 5)⟩,
⟨some 7, none, .mov (.t 0)⟩,
⟨some 8, none, .len (.t 7)⟩,
⟨some 9, none, .bin .lss (.t 6) (.t 8)⟩]
def ob53_1_2 : List Opn := [⟨some 12, none, .mov (.t 0)⟩,
⟨some 13, none, .mov (.t 5)⟩,
⟨some 14, none, .iaddr 5 (.t 12) (.t 13)⟩,
⟨some 15, none, .faddr 2 (.t 14)⟩,
⟨some 16, none, .load 1 false (.t 15)⟩,
⟨some 17, none, .mov (.t 1)⟩,
⟨some 18, none, .eq false false [.i] (.t 16) (.t 17)⟩]
def ob53_1_3 : List Opn := [⟨some 19, none, .mov (.t 5)⟩,
⟨some 4, none, .mov (.t 19)⟩]
def ob53_1_4 : List Opn := [⟨some 10, none, .mov (.t 5)⟩,
⟨some 11, none, .bin .add (.t 10) (.c (.int .i64 1))⟩,
⟨some 5, none, .mov (.t 11)⟩]
def b53_1 : IC := (.seq (.gh (.keep [0, 1, 5] []))
(.seq (.seq (.reg ob53_1_1)
(.cond (.t 9) (.skip)
(.exit 0)))
(.seq (.block 1 (.seq (.reg ob53_1_2)
(.cond (.t 18) (.seq (.reg ob53_1_3)
(.ret))
(.skip))))
(.reg ob53_1_4))))
def o53_1 : List Opn := [⟨some 4, none, .mov (.c (.int .i64 0))⟩]
def o53_2 : List Opn := [⟨some 5, none, .mov (.c (.int .i64 0))⟩]
def o53_3 : List Opn := [⟨some 4, none, .mov (.c (.int .i64 (-1)))⟩]
def c53 : IFn := ⟨2, [.t 4], [], [],
.seq (.reg o53_1)
(.seq (.seq (.reg o53_2)
(.block 0 (.loop b53_1)))
(.seq (.reg o53_3)
(.ret)))⟩
def ob54_1_1 : List Opn := [⟨some 12, none, .bin .lss (.t 11) (.t 10)⟩]
def ob54_1_2 : List Opn := [⟨some 13, none, .iaddr 5 (.t 9) (.t 11)⟩,
⟨some 14, none, .load 5 true (.t 13)⟩,
⟨some 5, none, .alloc 100005 [.int .i64 0, .int .i64 0, .int .i64 0, .int .i64 0, .int .i64 0]⟩,
⟨none, none, .store 5 (.t 5) (.t 14)⟩]
def ob54_1_3 : List Opn := [⟨some 15, none, .faddr 1 (.t 5)⟩,
⟨some 16, none, .load 1 false (.t 15)⟩,
⟨some 17, none, .bin .sub (.t 16) (.c (.int .i64 1))⟩,
⟨some 18, none, .faddr 1 (.t 5)⟩,
⟨none, none, .store 1 (.t 18) (.t 17)⟩]
def ob54_1_4 : List Opn := [⟨some 19, none, .faddr 1 (.t 5)⟩,
⟨some 20, none, .load 1 false (.t 19)⟩,
⟨some 21, none, .bin .gtr (.t 20) (.c (.int .i64 0))⟩]
def ob54_1_5 : List Opn := [⟨some 22, none, .mov (.t 3)⟩,
⟨some 23, none, .load 5 true (.t 5)⟩,
⟨some 24, none, .bslice 100024 5 [(.t 23)]⟩,
⟨some 25, none, .app 100025 5 40 (.t 22) (.t 24)⟩,
⟨some 3, none, .mov (.t 25)⟩]
def ob54_1_6 : List Opn := [⟨some 26, none, .bin .add (.t 11) (.c (.int .i64 1))⟩,
⟨some 11, none, .mov (.t 26)⟩]
def b54_1 : IC := (.seq (.gh (.keep [3, 9, 10, 11] [300003]))
(.seq (.reg ob54_1_1)
(.seq (.cond (.t 12) (.skip)
(.exit 0))
(.seq (.block 1 (.seq (.reg ob54_1_2)
(.seq (.reg ob54_1_3)
(.seq (.reg ob54_1_4)
(.cond (.t 21) (.reg ob54_1_5)
(.skip))))))
(.reg ob54_1_6)))))
def o54_1 : List Opn := [⟨some 2, none, .mov (.c (.nul))⟩]
def o54_2 : List Opn := [⟨some 6, none, .mov (.t 0)⟩,
⟨some 7, none, .call 30 [(.shut, (.t 6))] [] 110007000⟩,
⟨some 8, none, .un .not (.t 7)⟩]
def o54_3 : List Opn := [⟨some 2, none, .mov (.c (.nul))⟩]
def o54_4 : List Opn := [⟨some 3, none, .mov (.c (.nul))⟩]
def o54_5 : List Opn := [⟨some 9, none, .mov (.t 0)⟩,
⟨some 10, none, .len (.t 9)⟩,
⟨some 11, none, .mov (.c (.int .i64 0))⟩]
def o54_6 : List Opn := [⟨some 27, none, .mov (.t 3)⟩,
⟨some 2, none, .mov (.t 27)⟩]
def c54 : IFn := ⟨1, [.t 2], [], [],
.seq (.reg o54_1)
(.seq (.seq (.reg o54_2)
(.cond (.t 8) (.seq (.reg o54_3)
(.ret))
(.skip)))
(.seq (.reg o54_4)
(.seq (.seq (.reg o54_5)
(.block 0 (.seq (.gh (.room 3 300003 5))
(.loop b54_1))))
(.seq (.reg o54_6)
(.ret)))))⟩
end Go.Proofs.YtefoleocbhkobaaGreatDoor
