/-
  The functions of the seat, in the evaluator's form; that they are the program's.
-/
import Derived.Test.YtcnipahcheooiaaE30
import Derived.Test.YtcnipahcheooiaaChecked
namespace Go.Proofs.Ytcnipahcheooiaa
open Go Go.Ev
set_option linter.unusedSectionVars false
set_option linter.unusedSimpArgs false
set_option linter.unusedVariables false

-- 3 stratigraph/stratigraphlaw12.TapeFull
def c3 : IFn := ⟨2, [.t 4], [], [],
.seq (.reg [⟨(some 4), none, .mov (.c (.bool false))⟩])
(.seq (.reg [⟨(some 12), none, .mov (.t 0)⟩,
⟨(some 13), none, .toInt .i64 (.t 12)⟩,
⟨(some 14), none, .bin .add (.c (.int .i64 1048512)) (.t 13)⟩,
⟨(some 5), none, .mov (.t 14)⟩])
(.seq (.reg [⟨(some 15), none, .mov (.t 5)⟩,
⟨(some 16), none, .mksl 100016 1 [.int .u8 0] (.t 15) (.t 15)⟩,
⟨(some 17), none, .toStr (.t 16)⟩,
⟨(some 18), none, .build [.str [], .str [], .int .i64 0, .bool false, .bool false] [(0, 1, (.t 17))]⟩,
⟨(some 6), none, .alloc 100006 [.str [], .str [], .int .i64 0, .bool false, .bool false]⟩,
⟨none, none, .store 5 (.t 6) (.t 18)⟩])
(.seq (.seq (.reg [⟨(some 19), none, .mov (.t 5)⟩,
⟨(some 20), none, .bin .gtr (.t 19) (.c (.int .i64 1048576))⟩])
(.cond (.t 20) (.seq (.reg [⟨(some 22), none, .load 5 true (.t 6)⟩,
⟨(some 23), none, .call 4 [(.shut, (.t 22)), (.shut, (.c (.str [])))] [] 410023000⟩,
⟨(some 21), none, .mov (.t 23)⟩,
⟨(some 24), none, .ext (.t 21) 0⟩,
⟨(some 25), none, .ext (.t 21) 1⟩,
⟨(some 7), none, .alloc 100007 [.str [], .str [], .int .i64 0, .bool false, .bool false]⟩,
⟨none, none, .store 5 (.t 7) (.t 24)⟩,
⟨(some 8), none, .mov (.t 25)⟩])
(.seq (.reg [⟨(some 26), none, .load 5 true (.t 6)⟩,
⟨(some 27), none, .call 5 [(.shut, (.t 26))] [] 510027000⟩,
⟨(some 28), none, .un .not (.t 27)⟩,
⟨(some 29), none, .mov (.t 28)⟩,
⟨(some 30), (some (29, true)), .mov (.t 8)⟩,
⟨(some 31), (some (29, true)), .eq false false [.i] (.t 30) (.c (.int .i64 1))⟩,
⟨(some 32), none, .pick (.t 29) (.t 31) (.c (.bool false))⟩,
⟨(some 33), none, .mov (.t 32)⟩,
⟨(some 34), (some (33, true)), .call 6 [] [] 510034000⟩,
⟨(some 35), none, .pick (.t 33) (.t 34) (.c (.bool false))⟩,
⟨(some 4), none, .mov (.t 35)⟩])
(.ret)))
(.skip)))
(.seq (.reg [⟨(some 36), none, .mov (.t 1)⟩,
⟨(some 37), none, .toInt .i64 (.t 36)⟩,
⟨(some 38), none, .bin .add (.t 37) (.c (.int .i64 128))⟩,
⟨(some 39), none, .most [(.t 38), (.c (.int .i64 0))]⟩,
⟨(some 9), none, .mov (.t 39)⟩])
(.seq (.dreg [⟨(some 41), none, .load 5 true (.t 6)⟩,
⟨(some 42), none, .mov (.t 9)⟩,
⟨(some 43), none, .mksl 100043 1 [.int .u8 0] (.t 42) (.t 42)⟩,
⟨(some 44), none, .toStr (.t 43)⟩,
⟨(some 45), none, .call 4 [(.shut, (.t 41)), (.shut, (.t 44))] [] 710045000⟩,
⟨(some 40), none, .mov (.t 45)⟩,
⟨(some 46), none, .ext (.t 40) 0⟩,
⟨(some 47), none, .ext (.t 40) 1⟩,
⟨(some 10), none, .alloc 100010 [.str [], .str [], .int .i64 0, .bool false, .bool false]⟩,
⟨none, none, .store 5 (.t 10) (.t 46)⟩,
⟨(some 11), none, .mov (.t 47)⟩]
[(0, 2), (0, 8), (2, 8), (3, 8), (4, 8)])
(.seq (.seq (.reg [⟨(some 48), none, .mov (.t 5)⟩,
⟨(some 49), none, .mov (.t 9)⟩,
⟨(some 50), none, .bin .add (.t 48) (.t 49)⟩,
⟨(some 51), none, .bin .gtr (.t 50) (.c (.int .i64 1048576))⟩])
(.cond (.t 51) (.seq (.reg [⟨(some 52), none, .load 5 true (.t 10)⟩,
⟨(some 53), none, .load 5 true (.t 6)⟩,
⟨(some 54), none, .eq false true [.s, .s, .i, .b, .b] (.t 52) (.t 53)⟩,
⟨(some 55), none, .mov (.t 54)⟩,
⟨(some 56), (some (55, true)), .mov (.t 11)⟩,
⟨(some 57), (some (55, true)), .eq false false [.i] (.t 56) (.c (.int .i64 6))⟩,
⟨(some 58), none, .pick (.t 55) (.t 57) (.c (.bool false))⟩,
⟨(some 59), none, .mov (.t 58)⟩,
⟨(some 60), (some (59, true)), .call 6 [] [] 910060000⟩,
⟨(some 61), none, .pick (.t 59) (.t 60) (.c (.bool false))⟩,
⟨(some 4), none, .mov (.t 61)⟩])
(.ret))
(.skip)))
(.seq (.reg [⟨(some 62), none, .faddr 1 (.t 10)⟩,
⟨(some 63), none, .load 1 false (.t 62)⟩,
⟨(some 64), none, .lenS (.t 63)⟩,
⟨(some 65), none, .mov (.t 9)⟩,
⟨(some 66), none, .eq false false [.i] (.t 64) (.t 65)⟩,
⟨(some 67), none, .mov (.t 66)⟩,
⟨(some 68), (some (67, true)), .mov (.t 11)⟩,
⟨(some 69), (some (67, true)), .eq false false [.i] (.t 68) (.c (.int .i64 0))⟩,
⟨(some 70), none, .pick (.t 67) (.t 69) (.c (.bool false))⟩,
⟨(some 71), none, .mov (.t 70)⟩,
⟨(some 72), (some (71, true)), .load 5 true (.t 10)⟩,
⟨(some 73), (some (71, true)), .call 5 [(.shut, (.t 72))] [] 1010073000⟩,
⟨(some 74), none, .pick (.t 71) (.t 73) (.c (.bool false))⟩,
⟨(some 75), none, .mov (.t 74)⟩,
⟨(some 76), (some (75, true)), .call 6 [] [] 1010076000⟩,
⟨(some 77), none, .pick (.t 75) (.t 76) (.c (.bool false))⟩,
⟨(some 4), none, .mov (.t 77)⟩])
(.ret))))))))⟩

-- 4 stratigraph/tape.Append
def c4 : IFn := ⟨2, [.m 4 5 true, .t 5], [], [],
.seq (.reg [⟨(some 2), none, .box 100002 (.t 0)⟩,
⟨(some 4), none, .alloc 100004 [.str [], .str [], .int .i64 0, .bool false, .bool false]⟩,
⟨(some 5), none, .mov (.c (.int .i64 0))⟩])
(.seq (.seq (.reg [⟨(some 8), none, .load 5 true (.t 2)⟩,
⟨(some 9), none, .call 7 [(.shut, (.t 8))] [] 110009000⟩,
⟨(some 6), none, .mov (.t 9)⟩])
(.seq (.reg [⟨(some 10), none, .mov (.t 6)⟩,
⟨(some 11), none, .eq true false [.i] (.t 10) (.c (.int .i64 0))⟩])
(.cond (.t 11) (.seq (.reg [⟨(some 12), none, .load 5 true (.t 2)⟩,
⟨(some 13), none, .mov (.t 6)⟩,
⟨none, none, .store 5 (.t 4) (.t 12)⟩,
⟨(some 5), none, .mov (.t 13)⟩])
(.ret))
(.skip))))
(.seq (.seq (.reg [⟨(some 14), none, .mov (.t 1)⟩,
⟨(some 15), none, .lenS (.t 14)⟩,
⟨(some 16), none, .faddr 0 (.t 2)⟩,
⟨(some 17), none, .load 1 false (.t 16)⟩,
⟨(some 18), none, .lenS (.t 17)⟩,
⟨(some 19), none, .bin .sub (.c (.int .i64 1048576)) (.t 18)⟩,
⟨(some 20), none, .faddr 1 (.t 2)⟩,
⟨(some 21), none, .load 1 false (.t 20)⟩,
⟨(some 22), none, .lenS (.t 21)⟩,
⟨(some 23), none, .bin .sub (.t 19) (.t 22)⟩,
⟨(some 24), none, .bin .gtr (.t 15) (.t 23)⟩])
(.cond (.t 24) (.seq (.reg [⟨(some 25), none, .load 5 true (.t 2)⟩,
⟨none, none, .store 5 (.t 4) (.t 25)⟩,
⟨(some 5), none, .mov (.c (.int .i64 6))⟩])
(.ret))
(.skip)))
(.seq (.reg [⟨(some 27), none, .load 5 true (.t 2)⟩,
⟨(some 28), none, .call 8 [(.shut, (.t 27))] [] 610028000⟩,
⟨(some 26), none, .mov (.t 28)⟩,
⟨(some 29), none, .ext (.t 26) 0⟩,
⟨(some 30), none, .ext (.t 26) 1⟩,
⟨none, none, .store 5 (.t 2) (.t 29)⟩,
⟨(some 7), none, .mov (.t 30)⟩])
(.seq (.seq (.reg [⟨(some 31), none, .mov (.t 7)⟩,
⟨(some 32), none, .un .not (.t 31)⟩])
(.cond (.t 32) (.seq (.reg [⟨(some 33), none, .load 5 true (.t 2)⟩,
⟨none, none, .store 5 (.t 4) (.t 33)⟩,
⟨(some 5), none, .mov (.c (.int .i64 16))⟩])
(.ret))
(.skip)))
(.seq (.reg [⟨(some 34), none, .faddr 1 (.t 2)⟩,
⟨(some 35), none, .load 1 false (.t 34)⟩,
⟨(some 36), none, .mov (.t 1)⟩,
⟨(some 37), none, .bin .add (.t 35) (.t 36)⟩,
⟨(some 38), none, .faddr 1 (.t 2)⟩,
⟨none, none, .store 1 (.t 38) (.t 37)⟩])
(.seq (.reg [⟨(some 39), none, .load 5 true (.t 2)⟩,
⟨none, none, .store 5 (.t 4) (.t 39)⟩,
⟨(some 5), none, .mov (.c (.int .i64 0))⟩])
(.ret)))))))⟩

-- 5 stratigraph/tape.Right
def c5 : IFn := ⟨1, [.t 2], [], [],
.seq (.reg [⟨(some 1), none, .box 100001 (.t 0)⟩,
⟨(some 2), none, .mov (.c (.bool false))⟩])
(.seq (.reg [⟨(some 3), none, .faddr 0 (.t 1)⟩,
⟨(some 4), none, .load 1 false (.t 3)⟩,
⟨(some 5), none, .lenS (.t 4)⟩,
⟨(some 6), none, .faddr 1 (.t 1)⟩,
⟨(some 7), none, .load 1 false (.t 6)⟩,
⟨(some 8), none, .lenS (.t 7)⟩,
⟨(some 9), none, .bin .add (.t 5) (.t 8)⟩,
⟨(some 10), none, .bin .leq (.t 9) (.c (.int .i64 1048576))⟩,
⟨(some 11), none, .mov (.t 10)⟩,
⟨(some 12), (some (11, true)), .faddr 2 (.t 1)⟩,
⟨(some 13), (some (11, true)), .load 1 false (.t 12)⟩,
⟨(some 14), (some (11, true)), .bin .geq (.t 13) (.c (.int .i64 0))⟩,
⟨(some 15), none, .pick (.t 11) (.t 14) (.c (.bool false))⟩,
⟨(some 16), none, .mov (.t 15)⟩,
⟨(some 17), (some (16, true)), .faddr 2 (.t 1)⟩,
⟨(some 18), (some (16, true)), .load 1 false (.t 17)⟩,
⟨(some 19), (some (16, true)), .bin .leq (.t 18) (.c (.int .i64 1099511627776))⟩,
⟨(some 20), none, .pick (.t 16) (.t 19) (.c (.bool false))⟩,
⟨(some 21), none, .mov (.t 20)⟩,
⟨(some 22), (some (21, true)), .faddr 3 (.t 1)⟩,
⟨(some 23), (some (21, true)), .load 1 false (.t 22)⟩,
⟨(some 24), (some (21, true)), .mov (.t 23)⟩,
⟨(some 25), (some (24, false)), .faddr 2 (.t 1)⟩,
⟨(some 26), (some (24, false)), .load 1 false (.t 25)⟩,
⟨(some 27), (some (24, false)), .eq false false [.i] (.t 26) (.c (.int .i64 0))⟩,
⟨(some 28), (some (21, true)), .pick (.t 24) (.c (.bool true)) (.t 27)⟩,
⟨(some 29), none, .pick (.t 21) (.t 28) (.c (.bool false))⟩,
⟨(some 2), none, .mov (.t 29)⟩])
(.ret))⟩

-- 6 stratigraph/stratigraphlaw12.awake
def c6 : IFn := ⟨0, [.t 0], [], [],
.seq (.reg [⟨(some 0), none, .mov (.c (.bool false))⟩])
(.seq (.reg [⟨(some 5), none, .build [.str [], .str [], .int .i64 0, .bool false, .bool false] []⟩,
⟨(some 6), none, .call 4 [(.shut, (.t 5)), (.shut, (.c (.str [97, 98])))] [] 110006000⟩,
⟨(some 4), none, .mov (.t 6)⟩,
⟨(some 7), none, .ext (.t 4) 0⟩,
⟨(some 8), none, .ext (.t 4) 1⟩,
⟨(some 1), none, .alloc 100001 [.str [], .str [], .int .i64 0, .bool false, .bool false]⟩,
⟨none, none, .store 5 (.t 1) (.t 7)⟩,
⟨(some 2), none, .mov (.t 8)⟩])
(.seq (.reg [⟨(some 10), none, .load 5 true (.t 1)⟩,
⟨(some 11), none, .call 9 [(.shut, (.t 10))] [] 210011000⟩,
⟨(some 9), none, .mov (.t 11)⟩,
⟨(some 12), none, .ext (.t 9) 0⟩,
⟨(some 13), none, .ext (.t 9) 1⟩,
⟨none, none, .store 5 (.t 1) (.t 12)⟩,
⟨(some 3), none, .mov (.t 13)⟩])
(.seq (.reg [⟨(some 14), none, .mov (.t 2)⟩,
⟨(some 15), none, .eq false false [.i] (.t 14) (.c (.int .i64 0))⟩,
⟨(some 16), none, .mov (.t 15)⟩,
⟨(some 17), (some (16, true)), .mov (.t 3)⟩,
⟨(some 18), (some (16, true)), .eq false false [.i] (.t 17) (.c (.int .i64 0))⟩,
⟨(some 19), none, .pick (.t 16) (.t 18) (.c (.bool false))⟩,
⟨(some 20), none, .mov (.t 19)⟩,
⟨(some 21), (some (20, true)), .faddr 0 (.t 1)⟩,
⟨(some 22), (some (20, true)), .load 1 false (.t 21)⟩,
⟨(some 23), (some (20, true)), .eq false false [.s] (.t 22) (.c (.str [97, 98]))⟩,
⟨(some 24), none, .pick (.t 20) (.t 23) (.c (.bool false))⟩,
⟨(some 25), none, .mov (.t 24)⟩,
⟨(some 26), (some (25, true)), .load 5 true (.t 1)⟩,
⟨(some 27), (some (25, true)), .call 10 [(.shut, (.t 26)), (.shut, (.c (.int .i64 0)))] [] 310027000⟩,
⟨(some 28), (some (25, true)), .field 0 1 false (.t 27)⟩,
⟨(some 29), (some (25, true)), .eq false false [.s] (.t 28) (.c (.str [97, 98]))⟩,
⟨(some 30), none, .pick (.t 25) (.t 29) (.c (.bool false))⟩,
⟨(some 0), none, .mov (.t 30)⟩])
(.ret))))⟩

-- 7 stratigraph/tape.ready
def c7 : IFn := ⟨1, [.t 2], [], [],
.seq (.reg [⟨(some 1), none, .box 100001 (.t 0)⟩,
⟨(some 2), none, .mov (.c (.int .i64 0))⟩])
(.seq (.block 0 (.seq (.reg [⟨(some 4), none, .load 5 true (.t 1)⟩,
⟨(some 5), none, .call 5 [(.shut, (.t 4))] [] 110005000⟩,
⟨(some 6), none, .un .not (.t 5)⟩,
⟨(some 3), none, .mov (.t 6)⟩])
(.cond (.t 3) (.seq (.reg [⟨(some 2), none, .mov (.c (.int .i64 1))⟩])
(.ret))
(.seq (.reg [⟨(some 8), none, .faddr 4 (.t 1)⟩,
⟨(some 9), none, .load 1 false (.t 8)⟩,
⟨(some 7), none, .mov (.t 9)⟩])
(.cond (.t 7) (.seq (.reg [⟨(some 2), none, .mov (.c (.int .i64 16))⟩])
(.ret))
(.skip))))))
(.seq (.reg [⟨(some 2), none, .mov (.c (.int .i64 0))⟩])
(.ret)))⟩

-- 8 stratigraph/tape.spend
def c8 : IFn := ⟨1, [.m 2 5 true, .t 3], [], [],
.seq (.reg [⟨(some 1), none, .box 100001 (.t 0)⟩,
⟨(some 2), none, .alloc 100002 [.str [], .str [], .int .i64 0, .bool false, .bool false]⟩,
⟨(some 3), none, .mov (.c (.bool false))⟩])
(.seq (.block 0 (.seq (.reg [⟨(some 5), none, .faddr 3 (.t 1)⟩,
⟨(some 6), none, .load 1 false (.t 5)⟩,
⟨(some 7), none, .mov (.t 6)⟩,
⟨(some 8), (some (7, true)), .faddr 2 (.t 1)⟩,
⟨(some 9), (some (7, true)), .load 1 false (.t 8)⟩,
⟨(some 10), (some (7, true)), .eq false false [.i] (.t 9) (.c (.int .i64 0))⟩,
⟨(some 11), none, .pick (.t 7) (.t 10) (.c (.bool false))⟩,
⟨(some 4), none, .mov (.t 11)⟩])
(.cond (.t 4) (.seq (.reg [⟨(some 12), none, .faddr 4 (.t 1)⟩,
⟨none, none, .store 1 (.t 12) (.c (.bool true))⟩])
(.seq (.reg [⟨(some 13), none, .load 5 true (.t 1)⟩,
⟨none, none, .store 5 (.t 2) (.t 13)⟩,
⟨(some 3), none, .mov (.c (.bool false))⟩])
(.ret)))
(.seq (.reg [⟨(some 15), none, .faddr 3 (.t 1)⟩,
⟨(some 16), none, .load 1 false (.t 15)⟩,
⟨(some 14), none, .mov (.t 16)⟩])
(.cond (.t 14) (.reg [⟨(some 17), none, .faddr 2 (.t 1)⟩,
⟨(some 18), none, .load 1 false (.t 17)⟩,
⟨(some 19), none, .bin .sub (.t 18) (.c (.int .i64 1))⟩,
⟨(some 20), none, .faddr 2 (.t 1)⟩,
⟨none, none, .store 1 (.t 20) (.t 19)⟩])
(.skip))))))
(.seq (.reg [⟨(some 21), none, .load 5 true (.t 1)⟩,
⟨none, none, .store 5 (.t 2) (.t 21)⟩,
⟨(some 3), none, .mov (.c (.bool true))⟩])
(.ret)))⟩

-- 9 stratigraph/tape.Sync
def c9 : IFn := ⟨1, [.m 2 5 true, .t 3], [], [],
.seq (.reg [⟨(some 1), none, .box 100001 (.t 0)⟩,
⟨(some 2), none, .alloc 100002 [.str [], .str [], .int .i64 0, .bool false, .bool false]⟩,
⟨(some 3), none, .mov (.c (.int .i64 0))⟩])
(.seq (.seq (.reg [⟨(some 6), none, .load 5 true (.t 1)⟩,
⟨(some 7), none, .call 7 [(.shut, (.t 6))] [] 110007000⟩,
⟨(some 4), none, .mov (.t 7)⟩])
(.seq (.reg [⟨(some 8), none, .mov (.t 4)⟩,
⟨(some 9), none, .eq true false [.i] (.t 8) (.c (.int .i64 0))⟩])
(.cond (.t 9) (.seq (.reg [⟨(some 10), none, .load 5 true (.t 1)⟩,
⟨(some 11), none, .mov (.t 4)⟩,
⟨none, none, .store 5 (.t 2) (.t 10)⟩,
⟨(some 3), none, .mov (.t 11)⟩])
(.ret))
(.skip))))
(.seq (.reg [⟨(some 13), none, .load 5 true (.t 1)⟩,
⟨(some 14), none, .call 8 [(.shut, (.t 13))] [] 410014000⟩,
⟨(some 12), none, .mov (.t 14)⟩,
⟨(some 15), none, .ext (.t 12) 0⟩,
⟨(some 16), none, .ext (.t 12) 1⟩,
⟨none, none, .store 5 (.t 1) (.t 15)⟩,
⟨(some 5), none, .mov (.t 16)⟩])
(.seq (.seq (.reg [⟨(some 17), none, .mov (.t 5)⟩,
⟨(some 18), none, .un .not (.t 17)⟩])
(.cond (.t 18) (.seq (.reg [⟨(some 19), none, .load 5 true (.t 1)⟩,
⟨none, none, .store 5 (.t 2) (.t 19)⟩,
⟨(some 3), none, .mov (.c (.int .i64 16))⟩])
(.ret))
(.skip)))
(.seq (.reg [⟨(some 20), none, .faddr 0 (.t 1)⟩,
⟨(some 21), none, .load 1 false (.t 20)⟩,
⟨(some 22), none, .faddr 1 (.t 1)⟩,
⟨(some 23), none, .load 1 false (.t 22)⟩,
⟨(some 24), none, .bin .add (.t 21) (.t 23)⟩,
⟨(some 25), none, .faddr 0 (.t 1)⟩,
⟨none, none, .store 1 (.t 25) (.t 24)⟩,
⟨(some 26), none, .faddr 1 (.t 1)⟩,
⟨none, none, .store 1 (.t 26) (.c (.str []))⟩])
(.seq (.reg [⟨(some 27), none, .load 5 true (.t 1)⟩,
⟨none, none, .store 5 (.t 2) (.t 27)⟩,
⟨(some 3), none, .mov (.c (.int .i64 0))⟩])
(.ret))))))⟩

-- 10 stratigraph/tape.Crash
def c10 : IFn := ⟨2, [.m 4 5 true], [], [],
.seq (.reg [⟨(some 2), none, .box 100002 (.t 0)⟩,
⟨(some 4), none, .alloc 100004 [.str [], .str [], .int .i64 0, .bool false, .bool false]⟩])
(.seq (.seq (.reg [⟨(some 5), none, .load 5 true (.t 2)⟩,
⟨(some 6), none, .call 5 [(.shut, (.t 5))] [] 110006000⟩,
⟨(some 7), none, .un .not (.t 6)⟩])
(.cond (.t 7) (.seq (.reg [⟨(some 8), none, .load 5 true (.t 2)⟩,
⟨none, none, .store 5 (.t 4) (.t 8)⟩])
(.ret))
(.skip)))
(.seq (.dreg [⟨(some 9), none, .faddr 0 (.t 2)⟩,
⟨(some 10), none, .load 1 false (.t 9)⟩,
⟨(some 11), none, .faddr 1 (.t 2)⟩,
⟨(some 12), none, .load 1 false (.t 11)⟩,
⟨(some 13), none, .mov (.t 1)⟩,
⟨(some 14), none, .most [(.t 13), (.c (.int .i64 0))]⟩,
⟨(some 15), none, .faddr 1 (.t 2)⟩,
⟨(some 16), none, .load 1 false (.t 15)⟩,
⟨(some 17), none, .lenS (.t 16)⟩,
⟨(some 18), none, .least [(.t 14), (.t 17)]⟩,
⟨(some 19), none, .slcS (.t 12) none (some (.t 18))⟩,
⟨(some 20), none, .bin .add (.t 10) (.t 19)⟩,
⟨(some 21), none, .build [.str [], .str [], .int .i64 0, .bool false, .bool false] [(0, 1, (.t 20))]⟩,
⟨none, none, .store 5 (.t 4) (.t 21)⟩]
[])
(.ret)))⟩

def tabL : List (Nat × IFn) := [(3, c3), (4, c4), (5, c5), (6, c6), (7, c7), (8, c8), (9, c9), (10, c10)]

theorem tabL_ok : (tabL.all fun p => mFn Try.prog [] p.1 p.2) = true := by decide +kernel

/-- The function of that number. -/
def tab : Nat → Option IFn := lookT tabL
def prim : Nat → List PV → Option (PV × List (List PV)) := fun _ _ => none
def glob : Nat → List PV := fun _ => []

theorem tab_ok (f : Nat) (fn : IFn) (h : tab f = some fn) : mFn Try.prog [] f fn = true :=
  List.all_eq_true.1 tabL_ok (f, fn) (lookT_mem h)

/-- What the evaluator says is true of the program. -/
theorem ans {n f : Nat} {args : List PV} {r : PV} (h : run tab prim glob n f args = some (r, [])) : AnsOK Try.prog glob [] f args r :=
  (run_ok (by kernel_rfl) tab_ok (fun _ _ _ _ h => by cases h) n f args r h).2

end Go.Proofs.Ytcnipahcheooiaa
