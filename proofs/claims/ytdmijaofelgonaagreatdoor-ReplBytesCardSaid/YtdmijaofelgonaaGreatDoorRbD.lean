/-
  The functions of the program that are reached, compiled for the abstract machine. Written by program.
-/
import Derived.Test.YtdmijaofelgonaaGreatDoorAmP
set_option maxRecDepth 100000
namespace Go.Am.R1B
open Go Go.Am
def a3 : AFunc := ⟨106, [.tmp 4],
 (.seq (.region [⟨(some 4), none, 0, .mv (.const (.bool false))⟩])
 (.seq (.region [⟨(some 12), none, 0, .call 6 []⟩,
   ⟨(some 5), none, 0, .mv (.tmp 12)⟩])
 (.seq (.seq (.region [⟨(some 13), none, 0, .mv (.tmp 5)⟩,
   ⟨(some 14), none, 0, .un .not (.tmp 13)⟩])
 (.cond (.tmp 14)
  (.seq (.region [⟨(some 4), none, 0, .mv (.const (.bool false))⟩])
  .ret)
  .skip))
 (.seq (.seq (.region [⟨(some 15), none, 0, .mv (.tmp 0)⟩,
   ⟨(some 16), none, 0, .lenSl (.tmp 15)⟩,
   ⟨(some 17), none, 0, .bin .gtr (.tmp 16) (.const (.int .i64 200))⟩,
   ⟨(some 18), none, 0, .mv (.tmp 17)⟩,
   ⟨(some 19), (some (18, false)), 0, .mv (.tmp 1)⟩,
   ⟨(some 20), (some (18, false)), 0, .lenStr (.tmp 19)⟩,
   ⟨(some 21), (some (18, false)), 0, .bin .gtr (.tmp 20) (.const (.int .i64 4096))⟩,
   ⟨(some 22), none, 0, .pick (.tmp 18) (.const (.bool true)) (.tmp 21)⟩])
 (.cond (.tmp 22)
  (.seq (.region [⟨(some 23), none, 0, .mv (.tmp 5)⟩,
    ⟨(some 4), none, 0, .mv (.tmp 23)⟩])
  .ret)
  .skip))
 (.seq (.seq (.region [⟨(some 6), none, 0, .mv (.const (.int .i64 0))⟩])
 (.block 0
  (.loop
   (.seq (.seq (.region [⟨(some 24), none, 0, .mv (.tmp 6)⟩,
     ⟨(some 25), none, 0, .mv (.tmp 0)⟩,
     ⟨(some 26), none, 0, .lenSl (.tmp 25)⟩,
     ⟨(some 27), none, 0, .bin .lss (.tmp 24) (.tmp 26)⟩])
   (.cond (.tmp 27)
    .skip
    (.exit 0)))
   (.seq (.block 1
    (.seq (.region [⟨(some 30), none, 0, .mv (.tmp 0)⟩,
      ⟨(some 31), none, 0, .mv (.tmp 6)⟩,
      ⟨(some 32), none, 0, .indexSl 3 (.tmp 30) (.tmp 31)⟩,
      ⟨(some 33), none, 0, .fieldAddr 0 (.tmp 32)⟩,
      ⟨(some 34), none, 0, .load false 1 (.tmp 33)⟩,
      ⟨(some 35), none, 0, .bin .lss (.tmp 34) (.const (.int .i64 0))⟩,
      ⟨(some 36), none, 0, .mv (.tmp 35)⟩,
      ⟨(some 37), (some (36, false)), 0, .mv (.tmp 0)⟩,
      ⟨(some 38), (some (36, false)), 0, .mv (.tmp 6)⟩,
      ⟨(some 39), (some (36, false)), 0, .indexSl 3 (.tmp 37) (.tmp 38)⟩,
      ⟨(some 40), (some (36, false)), 0, .fieldAddr 1 (.tmp 39)⟩,
      ⟨(some 41), (some (36, false)), 0, .load false 1 (.tmp 40)⟩,
      ⟨(some 42), (some (36, false)), 0, .bin .lss (.tmp 41) (.const (.int .i64 0))⟩,
      ⟨(some 43), none, 0, .pick (.tmp 36) (.const (.bool true)) (.tmp 42)⟩,
      ⟨(some 44), none, 0, .mv (.tmp 43)⟩,
      ⟨(some 45), (some (44, false)), 0, .mv (.tmp 0)⟩,
      ⟨(some 46), (some (44, false)), 0, .mv (.tmp 6)⟩,
      ⟨(some 47), (some (44, false)), 0, .indexSl 3 (.tmp 45) (.tmp 46)⟩,
      ⟨(some 48), (some (44, false)), 0, .fieldAddr 2 (.tmp 47)⟩,
      ⟨(some 49), (some (44, false)), 0, .load false 1 (.tmp 48)⟩,
      ⟨(some 50), (some (44, false)), 0, .bin .lss (.tmp 49) (.const (.int .i64 0))⟩,
      ⟨(some 51), none, 0, .pick (.tmp 44) (.const (.bool true)) (.tmp 50)⟩])
    (.cond (.tmp 51)
     (.seq (.region [⟨(some 52), none, 0, .mv (.tmp 5)⟩,
       ⟨(some 4), none, 0, .mv (.tmp 52)⟩])
     .ret)
     .skip)))
   (.region [⟨(some 28), none, 0, .mv (.tmp 6)⟩,
     ⟨(some 29), none, 0, .bin .add (.tmp 28) (.const (.int .i64 1))⟩,
     ⟨(some 6), none, 0, .mv (.tmp 29)⟩]))))))
 (.seq (.region [⟨(some 54), none, 0, .mv (.tmp 1)⟩,
   ⟨(some 55), none, 0, .call 7 [(.tmp 54)]⟩,
   ⟨(some 53), none, 0, .mv (.tmp 55)⟩,
   ⟨(some 56), none, 0, .extract 0 (.tmp 53)⟩,
   ⟨(some 57), none, 0, .extract 1 (.tmp 53)⟩,
   ⟨(some 7), none, 0, .mv (.tmp 56)⟩,
   ⟨(some 8), none, 0, .mv (.tmp 57)⟩])
 (.seq (.region [⟨(some 59), none, 0, .mv (.tmp 1)⟩,
   ⟨(some 60), none, 0, .call 8 [(.tmp 59)]⟩,
   ⟨(some 58), none, 0, .mv (.tmp 60)⟩,
   ⟨(some 61), none, 0, .extract 0 (.tmp 58)⟩,
   ⟨(some 62), none, 0, .extract 1 (.tmp 58)⟩,
   ⟨(some 9), none, 0, .mv (.tmp 61)⟩,
   ⟨(some 10), none, 0, .mv (.tmp 62)⟩])
 (.seq (.seq (.region [⟨(some 63), none, 0, .mv (.tmp 7)⟩,
   ⟨(some 64), none, 0, .lenSl (.tmp 63)⟩,
   ⟨(some 65), none, 0, .mv (.tmp 9)⟩,
   ⟨(some 66), none, 0, .lenSl (.tmp 65)⟩,
   ⟨(some 67), none, 0, .bin .neq (.tmp 64) (.tmp 66)⟩,
   ⟨(some 68), none, 0, .mv (.tmp 67)⟩,
   ⟨(some 69), (some (68, false)), 0, .mv (.tmp 8)⟩,
   ⟨(some 70), (some (68, false)), 0, .mv (.tmp 10)⟩,
   ⟨(some 71), (some (68, false)), 0, .bin .neq (.tmp 69) (.tmp 70)⟩,
   ⟨(some 72), none, 0, .pick (.tmp 68) (.const (.bool true)) (.tmp 71)⟩,
   ⟨(some 73), none, 0, .mv (.tmp 72)⟩,
   ⟨(some 74), (some (73, false)), 0, .mv (.tmp 8)⟩,
   ⟨(some 75), (some (73, false)), 0, .bin .eql (.tmp 74) (.const (.int .i64 0))⟩,
   ⟨(some 76), (some (73, false)), 0, .mv (.tmp 75)⟩,
   ⟨(some 77), (some (76, true)), 0, .mv (.tmp 7)⟩,
   ⟨(some 78), (some (76, true)), 0, .call 9 [(.tmp 77)]⟩,
   ⟨(some 79), (some (76, true)), 0, .mv (.tmp 1)⟩,
   ⟨(some 80), (some (76, true)), 0, .bin .neq (.tmp 78) (.tmp 79)⟩,
   ⟨(some 81), (some (73, false)), 0, .pick (.tmp 76) (.tmp 80) (.const (.bool false))⟩,
   ⟨(some 82), none, 0, .pick (.tmp 73) (.const (.bool true)) (.tmp 81)⟩])
 (.cond (.tmp 82)
  (.seq (.region [⟨(some 4), none, 0, .mv (.const (.bool false))⟩])
  .ret)
  .skip))
 (.seq (.seq (.region [⟨(some 11), none, 0, .mv (.const (.int .i64 0))⟩])
 (.block 2
  (.loop
   (.seq (.seq (.region [⟨(some 83), none, 0, .mv (.tmp 11)⟩,
     ⟨(some 84), none, 0, .mv (.tmp 7)⟩,
     ⟨(some 85), none, 0, .lenSl (.tmp 84)⟩,
     ⟨(some 86), none, 0, .bin .lss (.tmp 83) (.tmp 85)⟩])
   (.cond (.tmp 86)
    .skip
    (.exit 2)))
   (.seq (.block 3
    (.seq (.draw [⟨(some 89), none, 0, .mv (.tmp 7)⟩,
      ⟨(some 90), none, 0, .mv (.tmp 11)⟩,
      ⟨(some 91), none, 3, .indexSl 3 (.tmp 89) (.tmp 90)⟩,
      ⟨(some 92), none, 7, .load true 3 (.tmp 91)⟩,
      ⟨(some 93), none, 0, .mv (.tmp 9)⟩,
      ⟨(some 94), none, 0, .mv (.tmp 11)⟩,
      ⟨(some 95), none, 48, .indexSl 3 (.tmp 93) (.tmp 94)⟩,
      ⟨(some 96), none, 112, .load true 3 (.tmp 95)⟩,
      ⟨(some 97), none, 255, .eqAgg true [(0, .int), (1, .int), (2, .int)] (.tmp 92) (.tmp 96)⟩])
    (.cond (.tmp 97)
     (.seq (.region [⟨(some 4), none, 0, .mv (.const (.bool false))⟩])
     .ret)
     .skip)))
   (.region [⟨(some 87), none, 0, .mv (.tmp 11)⟩,
     ⟨(some 88), none, 0, .bin .add (.tmp 87) (.const (.int .i64 1))⟩,
     ⟨(some 11), none, 0, .mv (.tmp 88)⟩]))))))
 (.seq (.region [⟨(some 98), none, 0, .mv (.tmp 5)⟩,
   ⟨(some 99), none, 0, .mv (.tmp 98)⟩,
   ⟨(some 100), (some (99, true)), 0, .mv (.tmp 0)⟩,
   ⟨(some 101), (some (99, true)), 0, .call 9 [(.tmp 100)]⟩,
   ⟨(some 102), (some (99, true)), 0, .mv (.tmp 0)⟩,
   ⟨(some 103), (some (99, true)), 0, .call 10 [(.tmp 102)]⟩,
   ⟨(some 104), (some (99, true)), 0, .bin .eql (.tmp 101) (.tmp 103)⟩,
   ⟨(some 105), none, 0, .pick (.tmp 99) (.tmp 104) (.const (.bool false))⟩,
   ⟨(some 4), none, 0, .mv (.tmp 105)⟩])
 .ret))))))))))⟩
def a7 : AFunc := ⟨37, [.tmp 2, .tmp 3],
 (.seq (.region [⟨(some 2), none, 0, .mv (.const (.slice none 0 0))⟩,
   ⟨(some 3), none, 0, .mv (.const (.int .i64 0))⟩])
 (.seq (.region [⟨(some 8), none, 0, .mv (.tmp 0)⟩,
   ⟨(some 9), none, 0, .call 25 [(.tmp 8)]⟩,
   ⟨(some 4), none, 0, .mv (.tmp 9)⟩])
 (.seq (.region [⟨(some 5), none, 0, .mv (.const (.slice none 0 0))⟩])
 (.seq (.seq (.region [⟨(some 10), none, 0, .mv (.tmp 4)⟩,
   ⟨(some 11), none, 0, .call 26 [(.tmp 10), (.const (.int .i64 65537))]⟩,
   ⟨(some 6), none, 0, .mv (.tmp 11)⟩])
 (.block 0
  (.loop
   (.seq (.seq (.region [⟨(some 12), none, 0, .mv (.tmp 4)⟩,
     ⟨(some 13), none, 0, .call 27 [(.tmp 12)]⟩,
     ⟨(some 14), none, 0, .bin .eql (.tmp 13) (.const (.int .i64 0))⟩,
     ⟨(some 15), none, 0, .mv (.tmp 14)⟩,
     ⟨(some 16), (some (15, true)), 0, .mv (.tmp 5)⟩,
     ⟨(some 17), (some (15, true)), 0, .lenSl (.tmp 16)⟩,
     ⟨(some 18), (some (15, true)), 0, .mv (.tmp 6)⟩,
     ⟨(some 19), (some (15, true)), 0, .bin .lss (.tmp 17) (.tmp 18)⟩,
     ⟨(some 20), none, 0, .pick (.tmp 15) (.tmp 19) (.const (.bool false))⟩])
   (.cond (.tmp 20)
    .skip
    (.exit 0)))
   (.block 1
    (.region [⟨(some 21), none, 0, .mv (.tmp 5)⟩,
      ⟨(some 22), none, 0, .mv (.tmp 4)⟩,
      ⟨(some 23), none, 0, .call 26 [(.tmp 22), (.const (.int .i64 2147483648))]⟩,
      ⟨(some 24), none, 0, .mv (.tmp 4)⟩,
      ⟨(some 25), none, 0, .call 26 [(.tmp 24), (.const (.int .i64 2147483648))]⟩,
      ⟨(some 26), none, 0, .mv (.tmp 4)⟩,
      ⟨(some 27), none, 0, .call 26 [(.tmp 26), (.const (.int .i64 2147483648))]⟩,
      ⟨(some 28), none, 0, .build [(.int .i64 0), (.int .i64 0), (.int .i64 0)] [(0, 1, (.tmp 23)), (1, 1, (.tmp 25)), (2, 1, (.tmp 27))]⟩,
      ⟨(some 29), none, 0, .buildSlice 3 1 [(.int .i64 0), (.int .i64 0), (.int .i64 0)] [(0, 3, (.tmp 28))]⟩,
      ⟨(some 30), none, 0, .append 3 24 [(.int .i64 0), (.int .i64 0), (.int .i64 0)] (.tmp 21) (.tmp 29)⟩,
      ⟨(some 5), none, 0, .mv (.tmp 30)⟩]))))))
 (.seq (.seq (.region [⟨(some 31), none, 0, .mv (.tmp 4)⟩,
   ⟨(some 32), none, 0, .call 28 [(.tmp 31)]⟩,
   ⟨(some 7), none, 0, .mv (.tmp 32)⟩])
 (.seq (.region [⟨(some 33), none, 0, .mv (.tmp 7)⟩,
   ⟨(some 34), none, 0, .bin .neq (.tmp 33) (.const (.int .i64 0))⟩])
 (.cond (.tmp 34)
  (.seq (.region [⟨(some 35), none, 0, .mv (.tmp 7)⟩,
    ⟨(some 2), none, 0, .mv (.const (.slice none 0 0))⟩,
    ⟨(some 3), none, 0, .mv (.tmp 35)⟩])
  .ret)
  .skip)))
 (.seq (.region [⟨(some 36), none, 0, .mv (.tmp 5)⟩,
   ⟨(some 2), none, 0, .mv (.tmp 36)⟩,
   ⟨(some 3), none, 0, .mv (.const (.int .i64 0))⟩])
 .ret))))))⟩
def a8 : AFunc := ⟨46, [.tmp 2, .tmp 3],
 (.seq (.region [⟨(some 2), none, 0, .mv (.const (.slice none 0 0))⟩,
   ⟨(some 3), none, 0, .mv (.const (.int .i64 0))⟩])
 (.seq (.region [⟨(some 10), none, 0, .mv (.tmp 0)⟩,
   ⟨(some 11), none, 0, .build [(.string ⟨#[]⟩), (.int .i64 0), (.int .i64 0)] [(0, 1, (.tmp 10))]⟩,
   ⟨(some 12), none, 0, .box (.tmp 11)⟩,
   ⟨(some 4), none, 0, .mv (.tmp 12)⟩])
 (.seq (.region [⟨(some 13), none, 0, .mv (.tmp 4)⟩,
   ⟨(some 14), none, 0, .call 29 [(.tmp 13), (.const (.int .i64 65537))]⟩,
   ⟨(some 5), none, 0, .mv (.tmp 14)⟩])
 (.seq (.region [⟨(some 6), none, 0, .mv (.const (.slice none 0 0))⟩])
 (.seq (.seq (.region [⟨(some 7), none, 0, .mv (.const (.int .i64 0))⟩])
 (.block 0
  (.loop
   (.seq (.seq (.region [⟨(some 15), none, 0, .mv (.tmp 7)⟩,
     ⟨(some 16), none, 0, .mv (.tmp 5)⟩,
     ⟨(some 17), none, 0, .bin .lss (.tmp 15) (.tmp 16)⟩,
     ⟨(some 18), none, 0, .mv (.tmp 17)⟩,
     ⟨(some 19), (some (18, true)), 0, .mv (.tmp 4)⟩,
     ⟨(some 20), (some (18, true)), 0, .nilCheck (.tmp 19)⟩,
     ⟨(some 21), (some (18, true)), 0, .fieldAddr 2 (.tmp 20)⟩,
     ⟨(some 22), (some (18, true)), 0, .load false 1 (.tmp 21)⟩,
     ⟨(some 23), (some (18, true)), 0, .bin .eql (.tmp 22) (.const (.int .i64 0))⟩,
     ⟨(some 24), none, 0, .pick (.tmp 18) (.tmp 23) (.const (.bool false))⟩])
   (.cond (.tmp 24)
    .skip
    (.exit 0)))
   (.seq (.block 1
    (.seq (.region [⟨(some 27), none, 0, .mv (.tmp 4)⟩,
      ⟨(some 28), none, 0, .call 29 [(.tmp 27), (.const (.int .i64 2147483648))]⟩,
      ⟨(some 29), none, 0, .build [(.int .i64 0), (.int .i64 0), (.int .i64 0)] [(0, 1, (.tmp 28))]⟩,
      ⟨(some 8), none, 0, .alloc [(.int .i64 0), (.int .i64 0), (.int .i64 0)]⟩,
      ⟨none, none, 0, .store 3 (.tmp 8) (.tmp 29)⟩])
    (.seq (.region [⟨(some 30), none, 0, .mv (.tmp 4)⟩,
      ⟨(some 31), none, 0, .call 29 [(.tmp 30), (.const (.int .i64 2147483648))]⟩,
      ⟨(some 32), none, 0, .fieldAddr 1 (.tmp 8)⟩,
      ⟨none, none, 0, .store 1 (.tmp 32) (.tmp 31)⟩])
    (.seq (.region [⟨(some 33), none, 0, .mv (.tmp 4)⟩,
      ⟨(some 34), none, 0, .call 29 [(.tmp 33), (.const (.int .i64 2147483648))]⟩,
      ⟨(some 35), none, 0, .fieldAddr 2 (.tmp 8)⟩,
      ⟨none, none, 0, .store 1 (.tmp 35) (.tmp 34)⟩])
    (.region [⟨(some 36), none, 0, .mv (.tmp 6)⟩,
      ⟨(some 37), none, 0, .load true 3 (.tmp 8)⟩,
      ⟨(some 38), none, 0, .buildSlice 3 1 [(.int .i64 0), (.int .i64 0), (.int .i64 0)] [(0, 3, (.tmp 37))]⟩,
      ⟨(some 39), none, 0, .append 3 24 [(.int .i64 0), (.int .i64 0), (.int .i64 0)] (.tmp 36) (.tmp 38)⟩,
      ⟨(some 6), none, 0, .mv (.tmp 39)⟩])))))
   (.region [⟨(some 25), none, 0, .mv (.tmp 7)⟩,
     ⟨(some 26), none, 0, .bin .add (.tmp 25) (.const (.int .i64 1))⟩,
     ⟨(some 7), none, 0, .mv (.tmp 26)⟩]))))))
 (.seq (.region [⟨(some 40), none, 0, .mv (.tmp 4)⟩,
   ⟨(some 41), none, 0, .call 30 [(.tmp 40)]⟩,
   ⟨(some 9), none, 0, .mv (.tmp 41)⟩])
 (.seq (.seq (.region [⟨(some 42), none, 0, .mv (.tmp 9)⟩,
   ⟨(some 43), none, 0, .bin .neq (.tmp 42) (.const (.int .i64 0))⟩])
 (.cond (.tmp 43)
  (.seq (.region [⟨(some 44), none, 0, .mv (.tmp 9)⟩,
    ⟨(some 2), none, 0, .mv (.const (.slice none 0 0))⟩,
    ⟨(some 3), none, 0, .mv (.tmp 44)⟩])
  .ret)
  .skip))
 (.seq (.region [⟨(some 45), none, 0, .mv (.tmp 6)⟩,
   ⟨(some 2), none, 0, .mv (.tmp 45)⟩,
   ⟨(some 3), none, 0, .mv (.const (.int .i64 0))⟩])
 .ret))))))))⟩
def a9 : AFunc := ⟨31, [.tmp 2],
 (.seq (.region [⟨(some 2), none, 0, .mv (.const (.string ⟨#[]⟩))⟩])
 (.seq (.region [⟨(some 6), none, 0, .mv (.tmp 0)⟩,
   ⟨(some 7), none, 0, .lenSl (.tmp 6)⟩,
   ⟨(some 8), none, 0, .toInt .u64 (.tmp 7)⟩,
   ⟨(some 9), none, 0, .buildSlice 1 1 [(.int .u64 0)] [(0, 1, (.tmp 8))]⟩,
   ⟨(some 10), none, 0, .call 31 [(.const (.string ⟨#[]⟩)), (.tmp 9)]⟩,
   ⟨(some 3), none, 0, .mv (.tmp 10)⟩])
 (.seq (.seq (.region [⟨(some 11), none, 0, .mv (.tmp 0)⟩,
   ⟨(some 12), none, 0, .lenSl (.tmp 11)⟩,
   ⟨(some 13), none, 0, .mv (.const (.int .i64 0))⟩])
 (.block 0
  (.loop
   (.seq (.region [⟨(some 14), none, 0, .bin .lss (.tmp 13) (.tmp 12)⟩])
   (.seq (.cond (.tmp 14)
    .skip
    (.exit 0))
   (.seq (.block 1
    (.seq (.region [⟨(some 15), none, 0, .indexSl 3 (.tmp 11) (.tmp 13)⟩,
      ⟨(some 16), none, 0, .load true 3 (.tmp 15)⟩,
      ⟨(some 5), none, 0, .alloc [(.int .i64 0), (.int .i64 0), (.int .i64 0)]⟩,
      ⟨none, none, 0, .store 3 (.tmp 5) (.tmp 16)⟩])
    (.region [⟨(some 17), none, 0, .mv (.tmp 3)⟩,
      ⟨(some 18), none, 0, .fieldAddr 0 (.tmp 5)⟩,
      ⟨(some 19), none, 0, .load false 1 (.tmp 18)⟩,
      ⟨(some 20), none, 0, .toInt .u64 (.tmp 19)⟩,
      ⟨(some 21), none, 0, .fieldAddr 1 (.tmp 5)⟩,
      ⟨(some 22), none, 0, .load false 1 (.tmp 21)⟩,
      ⟨(some 23), none, 0, .toInt .u64 (.tmp 22)⟩,
      ⟨(some 24), none, 0, .fieldAddr 2 (.tmp 5)⟩,
      ⟨(some 25), none, 0, .load false 1 (.tmp 24)⟩,
      ⟨(some 26), none, 0, .toInt .u64 (.tmp 25)⟩,
      ⟨(some 27), none, 0, .buildSlice 1 3 [(.int .u64 0), (.int .u64 0), (.int .u64 0)] [(0, 1, (.tmp 20)), (1, 1, (.tmp 23)), (2, 1, (.tmp 26))]⟩,
      ⟨(some 28), none, 0, .call 31 [(.tmp 17), (.tmp 27)]⟩,
      ⟨(some 3), none, 0, .mv (.tmp 28)⟩])))
   (.region [⟨(some 29), none, 0, .bin .add (.tmp 13) (.const (.int .i64 1))⟩,
     ⟨(some 13), none, 0, .mv (.tmp 29)⟩])))))))
 (.seq (.region [⟨(some 30), none, 0, .mv (.tmp 3)⟩,
   ⟨(some 2), none, 0, .mv (.tmp 30)⟩])
 .ret))))⟩
def a10 : AFunc := ⟨38, [.tmp 2],
 (.seq (.region [⟨(some 2), none, 0, .mv (.const (.string ⟨#[]⟩))⟩])
 (.seq (.region [⟨(some 5), none, 0, .mv (.tmp 0)⟩,
   ⟨(some 6), none, 0, .lenSl (.tmp 5)⟩,
   ⟨(some 7), none, 0, .toInt .u64 (.tmp 6)⟩,
   ⟨(some 8), none, 0, .call 32 [(.const (.string ⟨#[]⟩)), (.tmp 7)]⟩,
   ⟨(some 3), none, 0, .mv (.tmp 8)⟩])
 (.seq (.seq (.region [⟨(some 4), none, 0, .mv (.const (.int .i64 0))⟩])
 (.block 0
  (.loop
   (.seq (.seq (.region [⟨(some 9), none, 0, .mv (.tmp 4)⟩,
     ⟨(some 10), none, 0, .mv (.tmp 0)⟩,
     ⟨(some 11), none, 0, .lenSl (.tmp 10)⟩,
     ⟨(some 12), none, 0, .bin .lss (.tmp 9) (.tmp 11)⟩])
   (.cond (.tmp 12)
    .skip
    (.exit 0)))
   (.seq (.block 1
    (.draw [⟨(some 15), none, 0, .mv (.tmp 3)⟩,
      ⟨(some 16), none, 0, .mv (.tmp 0)⟩,
      ⟨(some 17), none, 0, .mv (.tmp 4)⟩,
      ⟨(some 18), none, 6, .indexSl 3 (.tmp 16) (.tmp 17)⟩,
      ⟨(some 19), none, 14, .fieldAddr 0 (.tmp 18)⟩,
      ⟨(some 20), none, 30, .load false 1 (.tmp 19)⟩,
      ⟨(some 21), none, 62, .toInt .u64 (.tmp 20)⟩,
      ⟨(some 22), none, 127, .call 32 [(.tmp 15), (.tmp 21)]⟩,
      ⟨(some 23), none, 0, .mv (.tmp 0)⟩,
      ⟨(some 24), none, 0, .mv (.tmp 4)⟩,
      ⟨(some 25), none, 768, .indexSl 3 (.tmp 23) (.tmp 24)⟩,
      ⟨(some 26), none, 1792, .fieldAddr 1 (.tmp 25)⟩,
      ⟨(some 27), none, 3840, .load false 1 (.tmp 26)⟩,
      ⟨(some 28), none, 7936, .toInt .u64 (.tmp 27)⟩,
      ⟨(some 29), none, 16383, .call 32 [(.tmp 22), (.tmp 28)]⟩,
      ⟨(some 30), none, 0, .mv (.tmp 0)⟩,
      ⟨(some 31), none, 0, .mv (.tmp 4)⟩,
      ⟨(some 32), none, 98304, .indexSl 3 (.tmp 30) (.tmp 31)⟩,
      ⟨(some 33), none, 229376, .fieldAddr 2 (.tmp 32)⟩,
      ⟨(some 34), none, 491520, .load false 1 (.tmp 33)⟩,
      ⟨(some 35), none, 1015808, .toInt .u64 (.tmp 34)⟩,
      ⟨(some 36), none, 2097151, .call 32 [(.tmp 29), (.tmp 35)]⟩,
      ⟨(some 3), none, 4194303, .mv (.tmp 36)⟩]))
   (.region [⟨(some 13), none, 0, .mv (.tmp 4)⟩,
     ⟨(some 14), none, 0, .bin .add (.tmp 13) (.const (.int .i64 1))⟩,
     ⟨(some 4), none, 0, .mv (.tmp 14)⟩]))))))
 (.seq (.region [⟨(some 37), none, 0, .mv (.tmp 3)⟩,
   ⟨(some 2), none, 0, .mv (.tmp 37)⟩])
 .ret))))⟩
def a25 : AFunc := ⟨6, [.tmp 2],
 (.seq (.region [⟨(some 2), none, 0, .mv (.const (.pointer none))⟩])
 (.seq (.region [⟨(some 3), none, 0, .mv (.tmp 0)⟩,
   ⟨(some 4), none, 0, .build [(.string ⟨#[]⟩), (.int .i64 0), (.int .i64 0)] [(0, 1, (.tmp 3))]⟩,
   ⟨(some 5), none, 0, .box (.tmp 4)⟩,
   ⟨(some 2), none, 0, .mv (.tmp 5)⟩])
 .ret))⟩
def a26 : AFunc := ⟨33, [.tmp 4],
 (.seq (.region [⟨(some 4), none, 0, .mv (.const (.int .i64 0))⟩])
 (.seq (.region [⟨(some 7), none, 0, .mv (.tmp 0)⟩,
   ⟨(some 8), none, 0, .nilCheck (.tmp 7)⟩,
   ⟨(some 9), none, 0, .fieldAddr 1 (.tmp 8)⟩,
   ⟨(some 10), none, 0, .load false 1 (.tmp 9)⟩,
   ⟨(some 5), none, 0, .mv (.tmp 10)⟩])
 (.seq (.region [⟨(some 11), none, 0, .mv (.tmp 0)⟩,
   ⟨(some 12), none, 0, .call 60 [(.tmp 11)]⟩,
   ⟨(some 6), none, 0, .mv (.tmp 12)⟩])
 (.seq (.seq (.region [⟨(some 13), none, 0, .mv (.tmp 0)⟩,
   ⟨(some 14), none, 0, .nilCheck (.tmp 13)⟩,
   ⟨(some 15), none, 0, .fieldAddr 2 (.tmp 14)⟩,
   ⟨(some 16), none, 0, .load false 1 (.tmp 15)⟩,
   ⟨(some 17), none, 0, .bin .eql (.tmp 16) (.const (.int .i64 0))⟩,
   ⟨(some 18), none, 0, .mv (.tmp 17)⟩,
   ⟨(some 19), (some (18, true)), 0, .mv (.tmp 1)⟩,
   ⟨(some 20), (some (18, true)), 0, .bin .leq (.tmp 19) (.const (.int .i64 0))⟩,
   ⟨(some 21), (some (18, true)), 0, .mv (.tmp 20)⟩,
   ⟨(some 22), (some (21, false)), 0, .mv (.tmp 6)⟩,
   ⟨(some 23), (some (21, false)), 0, .mv (.tmp 1)⟩,
   ⟨(some 24), (some (21, false)), 0, .toInt .u64 (.tmp 23)⟩,
   ⟨(some 25), (some (21, false)), 0, .bin .geq (.tmp 22) (.tmp 24)⟩,
   ⟨(some 26), (some (18, true)), 0, .pick (.tmp 21) (.const (.bool true)) (.tmp 25)⟩,
   ⟨(some 27), none, 0, .pick (.tmp 18) (.tmp 26) (.const (.bool false))⟩])
 (.cond (.tmp 27)
  (.seq (.region [⟨(some 28), none, 0, .mv (.tmp 0)⟩,
    ⟨(some 29), none, 0, .mv (.tmp 5)⟩,
    ⟨(some 30), none, 0, .call 61 [(.tmp 28), (.tmp 29), (.const (.int .i64 22))]⟩])
  (.seq (.region [⟨(some 4), none, 0, .mv (.const (.int .i64 0))⟩])
  .ret))
  .skip))
 (.seq (.region [⟨(some 31), none, 0, .mv (.tmp 6)⟩,
   ⟨(some 32), none, 0, .toInt .i64 (.tmp 31)⟩,
   ⟨(some 4), none, 0, .mv (.tmp 32)⟩])
 .ret)))))⟩
def a27 : AFunc := ⟨7, [.tmp 2],
 (.seq (.region [⟨(some 2), none, 0, .mv (.const (.int .i64 0))⟩])
 (.seq (.region [⟨(some 3), none, 0, .mv (.tmp 0)⟩,
   ⟨(some 4), none, 0, .nilCheck (.tmp 3)⟩,
   ⟨(some 5), none, 0, .fieldAddr 2 (.tmp 4)⟩,
   ⟨(some 6), none, 0, .load false 1 (.tmp 5)⟩,
   ⟨(some 2), none, 0, .mv (.tmp 6)⟩])
 .ret))⟩
def a28 : AFunc := ⟨24, [.tmp 2],
 (.seq (.region [⟨(some 2), none, 0, .mv (.const (.int .i64 0))⟩])
 (.seq (.seq (.draw [⟨(some 3), none, 0, .mv (.tmp 0)⟩,
   ⟨(some 4), none, 1, .nilCheck (.tmp 3)⟩,
   ⟨(some 5), none, 3, .fieldAddr 2 (.tmp 4)⟩,
   ⟨(some 6), none, 7, .load false 1 (.tmp 5)⟩,
   ⟨(some 7), none, 15, .bin .eql (.tmp 6) (.const (.int .i64 0))⟩,
   ⟨(some 8), none, 31, .mv (.tmp 7)⟩,
   ⟨(some 9), (some (8, true)), 63, .mv (.tmp 0)⟩,
   ⟨(some 10), (some (8, true)), 127, .nilCheck (.tmp 9)⟩,
   ⟨(some 11), (some (8, true)), 255, .fieldAddr 1 (.tmp 10)⟩,
   ⟨(some 12), (some (8, true)), 511, .load false 1 (.tmp 11)⟩,
   ⟨(some 13), (some (8, true)), 63, .mv (.tmp 0)⟩,
   ⟨(some 14), (some (8, true)), 1087, .nilCheck (.tmp 13)⟩,
   ⟨(some 15), (some (8, true)), 3135, .fieldAddr 0 (.tmp 14)⟩,
   ⟨(some 16), (some (8, true)), 7231, .load false 1 (.tmp 15)⟩,
   ⟨(some 17), (some (8, true)), 15423, .lenStr (.tmp 16)⟩,
   ⟨(some 18), (some (8, true)), 32767, .bin .lss (.tmp 12) (.tmp 17)⟩,
   ⟨(some 19), none, 65535, .pick (.tmp 8) (.tmp 18) (.const (.bool false))⟩])
 (.cond (.tmp 19)
  (.seq (.region [⟨(some 2), none, 0, .mv (.const (.int .i64 23))⟩])
  .ret)
  .skip))
 (.seq (.region [⟨(some 20), none, 0, .mv (.tmp 0)⟩,
   ⟨(some 21), none, 0, .nilCheck (.tmp 20)⟩,
   ⟨(some 22), none, 0, .fieldAddr 2 (.tmp 21)⟩,
   ⟨(some 23), none, 0, .load false 1 (.tmp 22)⟩,
   ⟨(some 2), none, 0, .mv (.tmp 23)⟩])
 .ret)))⟩
def a29 : AFunc := ⟨34, [.tmp 4],
 (.seq (.region [⟨(some 4), none, 0, .mv (.const (.int .i64 0))⟩])
 (.seq (.region [⟨(some 7), none, 0, .mv (.tmp 0)⟩,
   ⟨(some 8), none, 0, .nilCheck (.tmp 7)⟩,
   ⟨(some 9), none, 0, .fieldAddr 1 (.tmp 8)⟩,
   ⟨(some 10), none, 0, .load false 1 (.tmp 9)⟩,
   ⟨(some 5), none, 0, .mv (.tmp 10)⟩])
 (.seq (.region [⟨(some 11), none, 0, .mv (.tmp 0)⟩,
   ⟨(some 12), none, 0, .call 62 [(.tmp 11)]⟩,
   ⟨(some 6), none, 0, .mv (.tmp 12)⟩])
 (.seq (.seq (.region [⟨(some 13), none, 0, .mv (.tmp 0)⟩,
   ⟨(some 14), none, 0, .nilCheck (.tmp 13)⟩,
   ⟨(some 15), none, 0, .fieldAddr 2 (.tmp 14)⟩,
   ⟨(some 16), none, 0, .load false 1 (.tmp 15)⟩,
   ⟨(some 17), none, 0, .bin .neq (.tmp 16) (.const (.int .i64 0))⟩])
 (.cond (.tmp 17)
  (.seq (.region [⟨(some 4), none, 0, .mv (.const (.int .i64 0))⟩])
  .ret)
  .skip))
 (.seq (.seq (.region [⟨(some 18), none, 0, .mv (.tmp 1)⟩,
   ⟨(some 19), none, 0, .bin .leq (.tmp 18) (.const (.int .i64 0))⟩,
   ⟨(some 20), none, 0, .mv (.tmp 19)⟩,
   ⟨(some 21), (some (20, false)), 0, .mv (.tmp 6)⟩,
   ⟨(some 22), (some (20, false)), 0, .mv (.tmp 1)⟩,
   ⟨(some 23), (some (20, false)), 0, .toInt .u64 (.tmp 22)⟩,
   ⟨(some 24), (some (20, false)), 0, .bin .geq (.tmp 21) (.tmp 23)⟩,
   ⟨(some 25), none, 0, .pick (.tmp 20) (.const (.bool true)) (.tmp 24)⟩])
 (.cond (.tmp 25)
  (.seq (.region [⟨(some 26), none, 0, .mv (.tmp 0)⟩,
    ⟨(some 27), none, 0, .mv (.tmp 5)⟩,
    ⟨(some 28), none, 0, .nilCheck (.tmp 26)⟩,
    ⟨(some 29), none, 0, .fieldAddr 1 (.tmp 28)⟩,
    ⟨none, none, 0, .store 1 (.tmp 29) (.tmp 27)⟩])
  (.seq (.region [⟨(some 30), none, 0, .mv (.tmp 0)⟩,
    ⟨(some 31), none, 0, .call 63 [(.tmp 30), (.const (.int .i64 22))]⟩])
  (.seq (.region [⟨(some 4), none, 0, .mv (.const (.int .i64 0))⟩])
  .ret)))
  .skip))
 (.seq (.region [⟨(some 32), none, 0, .mv (.tmp 6)⟩,
   ⟨(some 33), none, 0, .toInt .i64 (.tmp 32)⟩,
   ⟨(some 4), none, 0, .mv (.tmp 33)⟩])
 .ret))))))⟩
def a30 : AFunc := ⟨24, [.tmp 2],
 (.seq (.region [⟨(some 2), none, 0, .mv (.const (.int .i64 0))⟩])
 (.seq (.seq (.draw [⟨(some 3), none, 0, .mv (.tmp 0)⟩,
   ⟨(some 4), none, 1, .nilCheck (.tmp 3)⟩,
   ⟨(some 5), none, 3, .fieldAddr 2 (.tmp 4)⟩,
   ⟨(some 6), none, 7, .load false 1 (.tmp 5)⟩,
   ⟨(some 7), none, 15, .bin .eql (.tmp 6) (.const (.int .i64 0))⟩,
   ⟨(some 8), none, 31, .mv (.tmp 7)⟩,
   ⟨(some 9), (some (8, true)), 63, .mv (.tmp 0)⟩,
   ⟨(some 10), (some (8, true)), 127, .nilCheck (.tmp 9)⟩,
   ⟨(some 11), (some (8, true)), 255, .fieldAddr 1 (.tmp 10)⟩,
   ⟨(some 12), (some (8, true)), 511, .load false 1 (.tmp 11)⟩,
   ⟨(some 13), (some (8, true)), 63, .mv (.tmp 0)⟩,
   ⟨(some 14), (some (8, true)), 1087, .nilCheck (.tmp 13)⟩,
   ⟨(some 15), (some (8, true)), 3135, .fieldAddr 0 (.tmp 14)⟩,
   ⟨(some 16), (some (8, true)), 7231, .load false 1 (.tmp 15)⟩,
   ⟨(some 17), (some (8, true)), 15423, .lenStr (.tmp 16)⟩,
   ⟨(some 18), (some (8, true)), 32767, .bin .lss (.tmp 12) (.tmp 17)⟩,
   ⟨(some 19), none, 65535, .pick (.tmp 8) (.tmp 18) (.const (.bool false))⟩])
 (.cond (.tmp 19)
  (.seq (.region [⟨(some 2), none, 0, .mv (.const (.int .i64 23))⟩])
  .ret)
  .skip))
 (.seq (.region [⟨(some 20), none, 0, .mv (.tmp 0)⟩,
   ⟨(some 21), none, 0, .nilCheck (.tmp 20)⟩,
   ⟨(some 22), none, 0, .fieldAddr 2 (.tmp 21)⟩,
   ⟨(some 23), none, 0, .load false 1 (.tmp 22)⟩,
   ⟨(some 2), none, 0, .mv (.tmp 23)⟩])
 .ret)))⟩
def a31 : AFunc := ⟨8, [.tmp 4],
 (.seq (.region [⟨(some 4), none, 0, .mv (.const (.string ⟨#[]⟩))⟩])
 (.seq (.region [⟨(some 5), none, 0, .mv (.tmp 0)⟩,
   ⟨(some 6), none, 0, .mv (.tmp 1)⟩,
   ⟨(some 7), none, 0, .call 64 [(.tmp 5), (.tmp 6), (.const (.func (.func 65) #[] #[]))]⟩,
   ⟨(some 4), none, 0, .mv (.tmp 7)⟩])
 .ret))⟩
def a32 : AFunc := ⟨26, [.tmp 4],
 (.seq (.region [⟨(some 4), none, 0, .mv (.const (.string ⟨#[]⟩))⟩])
 (.seq (.region [⟨(some 5), none, 0, .mv (.const (.slice none 0 0))⟩])
 (.seq (.block 0
  (.loop
   (.seq (.seq (.region [⟨(some 6), none, 0, .mv (.tmp 1)⟩,
     ⟨(some 7), none, 0, .bin .geq (.tmp 6) (.const (.int .u64 128))⟩])
   (.cond (.tmp 7)
    .skip
    (.exit 0)))
   (.block 1
    (.seq (.region [⟨(some 8), none, 0, .mv (.tmp 5)⟩,
      ⟨(some 9), none, 0, .mv (.tmp 1)⟩,
      ⟨(some 10), none, 0, .bin .rem (.tmp 9) (.const (.int .u64 128))⟩,
      ⟨(some 11), none, 0, .bin .add (.const (.int .u64 128)) (.tmp 10)⟩,
      ⟨(some 12), none, 0, .toInt .u8 (.tmp 11)⟩,
      ⟨(some 13), none, 0, .buildSlice 1 1 [(.int .u8 0)] [(0, 1, (.tmp 12))]⟩,
      ⟨(some 14), none, 0, .append 1 1 [(.int .u8 0)] (.tmp 8) (.tmp 13)⟩,
      ⟨(some 5), none, 0, .mv (.tmp 14)⟩])
    (.region [⟨(some 15), none, 0, .mv (.tmp 1)⟩,
      ⟨(some 16), none, 0, .bin .quo (.tmp 15) (.const (.int .u64 128))⟩,
      ⟨(some 1), none, 0, .mv (.tmp 16)⟩]))))))
 (.seq (.region [⟨(some 17), none, 0, .mv (.tmp 5)⟩,
   ⟨(some 18), none, 0, .mv (.tmp 1)⟩,
   ⟨(some 19), none, 0, .toInt .u8 (.tmp 18)⟩,
   ⟨(some 20), none, 0, .buildSlice 1 1 [(.int .u8 0)] [(0, 1, (.tmp 19))]⟩,
   ⟨(some 21), none, 0, .append 1 1 [(.int .u8 0)] (.tmp 17) (.tmp 20)⟩,
   ⟨(some 5), none, 0, .mv (.tmp 21)⟩])
 (.seq (.region [⟨(some 22), none, 0, .mv (.tmp 0)⟩,
   ⟨(some 23), none, 0, .mv (.tmp 5)⟩,
   ⟨(some 24), none, 0, .bytesToStr (.tmp 23)⟩,
   ⟨(some 25), none, 0, .bin .add (.tmp 22) (.tmp 24)⟩,
   ⟨(some 4), none, 0, .mv (.tmp 25)⟩])
 .ret)))))⟩
def a60 : AFunc := ⟨77, [.tmp 2],
 (.seq (.region [⟨(some 2), none, 0, .mv (.const (.int .u64 0))⟩])
 (.seq (.seq (.region [⟨(some 7), none, 0, .mv (.tmp 0)⟩,
   ⟨(some 8), none, 0, .nilCheck (.tmp 7)⟩,
   ⟨(some 9), none, 0, .fieldAddr 2 (.tmp 8)⟩,
   ⟨(some 10), none, 0, .load false 1 (.tmp 9)⟩,
   ⟨(some 11), none, 0, .bin .neq (.tmp 10) (.const (.int .i64 0))⟩])
 (.cond (.tmp 11)
  (.seq (.region [⟨(some 2), none, 0, .mv (.const (.int .u64 0))⟩])
  .ret)
  .skip))
 (.seq (.draw [⟨(some 12), none, 0, .mv (.tmp 0)⟩,
   ⟨(some 13), none, 1, .nilCheck (.tmp 12)⟩,
   ⟨(some 14), none, 3, .fieldAddr 0 (.tmp 13)⟩,
   ⟨(some 15), none, 7, .load false 1 (.tmp 14)⟩,
   ⟨(some 16), none, 0, .mv (.tmp 0)⟩,
   ⟨(some 17), none, 16, .nilCheck (.tmp 16)⟩,
   ⟨(some 18), none, 48, .fieldAddr 1 (.tmp 17)⟩,
   ⟨(some 19), none, 112, .load false 1 (.tmp 18)⟩,
   ⟨(some 20), none, 255, .sliceStr (.tmp 15) (some (.tmp 19)) none⟩,
   ⟨(some 3), none, 0, .mv (.const (.int .u64 0))⟩,
   ⟨(some 4), none, 1023, .mv (.tmp 20)⟩])
 (.seq (.seq (.region [⟨(some 21), none, 0, .mv (.tmp 4)⟩,
   ⟨(some 22), none, 0, .lenStr (.tmp 21)⟩,
   ⟨(some 23), none, 0, .min [(.tmp 22), (.const (.int .i64 10))]⟩,
   ⟨(some 24), none, 0, .mv (.const (.int .i64 0))⟩])
 (.block 0
  (.loop
   (.seq (.region [⟨(some 25), none, 0, .bin .lss (.tmp 24) (.tmp 23)⟩])
   (.seq (.cond (.tmp 25)
    .skip
    (.exit 0))
   (.seq (.block 1
    (.seq (.region [⟨(some 26), none, 0, .mv (.tmp 24)⟩,
      ⟨(some 5), none, 0, .mv (.tmp 26)⟩])
    (.seq (.region [⟨(some 27), none, 0, .mv (.tmp 4)⟩,
      ⟨(some 28), none, 0, .mv (.tmp 5)⟩,
      ⟨(some 29), none, 0, .indexStr (.tmp 27) (.tmp 28)⟩,
      ⟨(some 30), none, 0, .toInt .u64 (.tmp 29)⟩,
      ⟨(some 6), none, 0, .mv (.tmp 30)⟩])
    (.seq (.region [⟨(some 31), none, 0, .mv (.tmp 3)⟩,
      ⟨(some 32), none, 0, .mv (.tmp 6)⟩,
      ⟨(some 33), none, 0, .bin .and (.tmp 32) (.const (.int .u64 127))⟩,
      ⟨(some 34), none, 0, .mv (.tmp 5)⟩,
      ⟨(some 35), none, 0, .bin .mul (.const (.int .i64 7)) (.tmp 34)⟩,
      ⟨(some 36), none, 0, .bin .shl (.tmp 33) (.tmp 35)⟩,
      ⟨(some 37), none, 0, .bin .or (.tmp 31) (.tmp 36)⟩,
      ⟨(some 3), none, 0, .mv (.tmp 37)⟩])
    (.seq (.block 2
     (.seq (.region [⟨(some 39), none, 0, .mv (.tmp 6)⟩,
       ⟨(some 40), none, 0, .bin .geq (.tmp 39) (.const (.int .u64 128))⟩,
       ⟨(some 38), none, 0, .mv (.tmp 40)⟩])
     (.cond (.tmp 38)
      (.exit 1)
      (.seq (.seq (.region [⟨(some 42), none, 0, .mv (.tmp 6)⟩,
        ⟨(some 43), none, 0, .bin .eql (.tmp 42) (.const (.int .u64 0))⟩,
        ⟨(some 44), none, 0, .mv (.tmp 43)⟩,
        ⟨(some 45), (some (44, true)), 0, .mv (.tmp 5)⟩,
        ⟨(some 46), (some (44, true)), 0, .bin .gtr (.tmp 45) (.const (.int .i64 0))⟩,
        ⟨(some 47), none, 0, .pick (.tmp 44) (.tmp 46) (.const (.bool false))⟩,
        ⟨(some 41), none, 0, .mv (.tmp 47)⟩])
      (.cond (.tmp 41)
       .skip
       (.region [⟨(some 48), none, 0, .mv (.tmp 5)⟩,
         ⟨(some 49), none, 0, .bin .eql (.tmp 48) (.const (.int .i64 9))⟩,
         ⟨(some 50), none, 0, .mv (.tmp 49)⟩,
         ⟨(some 51), (some (50, true)), 0, .mv (.tmp 6)⟩,
         ⟨(some 52), (some (50, true)), 0, .bin .gtr (.tmp 51) (.const (.int .u64 1))⟩,
         ⟨(some 53), none, 0, .pick (.tmp 50) (.tmp 52) (.const (.bool false))⟩,
         ⟨(some 41), none, 0, .mv (.tmp 53)⟩])))
      (.cond (.tmp 41)
       (.seq (.region [⟨(some 54), none, 0, .mv (.tmp 0)⟩,
         ⟨(some 55), none, 0, .nilCheck (.tmp 54)⟩,
         ⟨(some 56), none, 0, .fieldAddr 2 (.tmp 55)⟩,
         ⟨none, none, 0, .store 1 (.tmp 56) (.const (.int .i64 21))⟩])
       (.seq (.region [⟨(some 2), none, 0, .mv (.const (.int .u64 0))⟩])
       .ret))
       .skip)))))
    (.seq (.region [⟨(some 57), none, 0, .mv (.tmp 0)⟩,
      ⟨(some 58), none, 0, .nilCheck (.tmp 57)⟩,
      ⟨(some 59), none, 0, .fieldAddr 1 (.tmp 58)⟩,
      ⟨(some 60), none, 0, .load false 1 (.tmp 59)⟩,
      ⟨(some 61), none, 0, .mv (.tmp 5)⟩,
      ⟨(some 62), none, 0, .bin .add (.tmp 61) (.const (.int .i64 1))⟩,
      ⟨(some 63), none, 0, .bin .add (.tmp 60) (.tmp 62)⟩,
      ⟨(some 64), none, 0, .nilCheck (.tmp 57)⟩,
      ⟨(some 65), none, 0, .fieldAddr 1 (.tmp 64)⟩,
      ⟨none, none, 0, .store 1 (.tmp 65) (.tmp 63)⟩])
    (.seq (.region [⟨(some 66), none, 0, .mv (.tmp 3)⟩,
      ⟨(some 2), none, 0, .mv (.tmp 66)⟩])
    .ret)))))))
   (.region [⟨(some 67), none, 0, .bin .add (.tmp 24) (.const (.int .i64 1))⟩,
     ⟨(some 24), none, 0, .mv (.tmp 67)⟩])))))))
 (.seq (.region [⟨(some 68), none, 0, .mv (.tmp 0)⟩,
   ⟨(some 69), none, 0, .nilCheck (.tmp 68)⟩,
   ⟨(some 70), none, 0, .fieldAddr 2 (.tmp 69)⟩,
   ⟨none, none, 0, .store 1 (.tmp 70) (.const (.int .i64 20))⟩])
 (.seq (.seq (.region [⟨(some 71), none, 0, .mv (.tmp 4)⟩,
   ⟨(some 72), none, 0, .lenStr (.tmp 71)⟩,
   ⟨(some 73), none, 0, .bin .geq (.tmp 72) (.const (.int .i64 10))⟩])
 (.cond (.tmp 73)
  (.region [⟨(some 74), none, 0, .mv (.tmp 0)⟩,
    ⟨(some 75), none, 0, .nilCheck (.tmp 74)⟩,
    ⟨(some 76), none, 0, .fieldAddr 2 (.tmp 75)⟩,
    ⟨none, none, 0, .store 1 (.tmp 76) (.const (.int .i64 21))⟩])
  .skip))
 (.seq (.region [⟨(some 2), none, 0, .mv (.const (.int .u64 0))⟩])
 .ret)))))))⟩
def a61 : AFunc := ⟨14, [],
 (.region [⟨(some 6), none, 0, .mv (.tmp 0)⟩,
   ⟨(some 7), none, 0, .mv (.tmp 0)⟩,
   ⟨(some 8), none, 0, .mv (.tmp 1)⟩,
   ⟨(some 9), none, 0, .mv (.tmp 2)⟩,
   ⟨(some 10), none, 0, .nilCheck (.tmp 6)⟩,
   ⟨(some 11), none, 0, .fieldAddr 1 (.tmp 10)⟩,
   ⟨none, none, 0, .store 1 (.tmp 11) (.tmp 8)⟩,
   ⟨(some 12), none, 0, .nilCheck (.tmp 7)⟩,
   ⟨(some 13), none, 0, .fieldAddr 2 (.tmp 12)⟩,
   ⟨none, none, 0, .store 1 (.tmp 13) (.tmp 9)⟩])⟩
def a62 : AFunc := ⟨34, [.tmp 2],
 (.seq (.region [⟨(some 2), none, 0, .mv (.const (.int .u64 0))⟩])
 (.seq (.seq (.region [⟨(some 6), none, 0, .mv (.tmp 0)⟩,
   ⟨(some 7), none, 0, .nilCheck (.tmp 6)⟩,
   ⟨(some 8), none, 0, .fieldAddr 2 (.tmp 7)⟩,
   ⟨(some 9), none, 0, .load false 1 (.tmp 8)⟩,
   ⟨(some 10), none, 0, .bin .neq (.tmp 9) (.const (.int .i64 0))⟩])
 (.cond (.tmp 10)
  (.seq (.region [⟨(some 2), none, 0, .mv (.const (.int .u64 0))⟩])
  .ret)
  .skip))
 (.seq (.draw [⟨(some 12), none, 0, .mv (.tmp 0)⟩,
   ⟨(some 13), none, 1, .nilCheck (.tmp 12)⟩,
   ⟨(some 14), none, 3, .fieldAddr 0 (.tmp 13)⟩,
   ⟨(some 15), none, 7, .load false 1 (.tmp 14)⟩,
   ⟨(some 16), none, 0, .mv (.tmp 0)⟩,
   ⟨(some 17), none, 16, .nilCheck (.tmp 16)⟩,
   ⟨(some 18), none, 48, .fieldAddr 1 (.tmp 17)⟩,
   ⟨(some 19), none, 112, .load false 1 (.tmp 18)⟩,
   ⟨(some 20), none, 255, .call 94 [(.tmp 15), (.tmp 19)]⟩,
   ⟨(some 11), none, 511, .mv (.tmp 20)⟩,
   ⟨(some 21), none, 1023, .extract 0 (.tmp 11)⟩,
   ⟨(some 22), none, 1023, .extract 1 (.tmp 11)⟩,
   ⟨(some 23), none, 1023, .extract 2 (.tmp 11)⟩,
   ⟨(some 3), none, 2047, .mv (.tmp 21)⟩,
   ⟨(some 4), none, 12287, .mv (.tmp 22)⟩,
   ⟨(some 5), none, 32767, .mv (.tmp 23)⟩])
 (.seq (.seq (.region [⟨(some 24), none, 0, .mv (.tmp 5)⟩,
   ⟨(some 25), none, 0, .bin .neq (.tmp 24) (.const (.int .i64 0))⟩])
 (.cond (.tmp 25)
  (.seq (.region [⟨(some 26), none, 0, .mv (.tmp 0)⟩,
    ⟨(some 27), none, 0, .mv (.tmp 5)⟩,
    ⟨(some 28), none, 0, .call 63 [(.tmp 26), (.tmp 27)]⟩])
  (.seq (.region [⟨(some 2), none, 0, .mv (.const (.int .u64 0))⟩])
  .ret))
  .skip))
 (.seq (.region [⟨(some 29), none, 0, .mv (.tmp 0)⟩,
   ⟨(some 30), none, 0, .mv (.tmp 4)⟩,
   ⟨(some 31), none, 0, .nilCheck (.tmp 29)⟩,
   ⟨(some 32), none, 0, .fieldAddr 1 (.tmp 31)⟩,
   ⟨none, none, 0, .store 1 (.tmp 32) (.tmp 30)⟩])
 (.seq (.region [⟨(some 33), none, 0, .mv (.tmp 3)⟩,
   ⟨(some 2), none, 0, .mv (.tmp 33)⟩])
 .ret))))))⟩
def a63 : AFunc := ⟨8, [],
 (.region [⟨(some 4), none, 0, .mv (.tmp 0)⟩,
   ⟨(some 5), none, 0, .mv (.tmp 1)⟩,
   ⟨(some 6), none, 0, .nilCheck (.tmp 4)⟩,
   ⟨(some 7), none, 0, .fieldAddr 2 (.tmp 6)⟩,
   ⟨none, none, 0, .store 1 (.tmp 7) (.tmp 5)⟩])⟩
def a64 : AFunc := ⟨25, [.tmp 6],
 (.seq (.region [⟨(some 6), none, 0, .mv (.const (.string ⟨#[]⟩))⟩])
 (.seq (.region [⟨(some 10), none, 0, .mv (.tmp 0)⟩,
   ⟨(some 11), none, 0, .strToBytes (.tmp 10)⟩,
   ⟨(some 7), none, 0, .mv (.tmp 11)⟩])
 (.seq (.seq (.region [⟨(some 12), none, 0, .mv (.tmp 1)⟩,
   ⟨(some 13), none, 0, .lenSl (.tmp 12)⟩,
   ⟨(some 14), none, 0, .mv (.const (.int .i64 0))⟩])
 (.block 0
  (.loop
   (.seq (.region [⟨(some 15), none, 0, .bin .lss (.tmp 14) (.tmp 13)⟩])
   (.seq (.cond (.tmp 15)
    .skip
    (.exit 0))
   (.seq (.block 1
    (.seq (.region [⟨(some 16), none, 0, .indexSl 1 (.tmp 12) (.tmp 14)⟩,
      ⟨(some 17), none, 0, .load false 1 (.tmp 16)⟩,
      ⟨(some 9), none, 0, .mv (.tmp 17)⟩])
    (.region [⟨(some 18), none, 0, .mv (.tmp 2)⟩,
      ⟨(some 19), none, 0, .mv (.tmp 7)⟩,
      ⟨(some 20), none, 0, .mv (.tmp 9)⟩,
      ⟨(some 21), none, 0, .callV (.tmp 18) [(.tmp 19), (.tmp 20)]⟩,
      ⟨(some 7), none, 0, .mv (.tmp 21)⟩])))
   (.region [⟨(some 22), none, 0, .bin .add (.tmp 14) (.const (.int .i64 1))⟩,
     ⟨(some 14), none, 0, .mv (.tmp 22)⟩])))))))
 (.seq (.region [⟨(some 23), none, 0, .mv (.tmp 7)⟩,
   ⟨(some 24), none, 0, .bytesToStr (.tmp 23)⟩,
   ⟨(some 6), none, 0, .mv (.tmp 24)⟩])
 .ret))))⟩
def a65 : AFunc := ⟨20, [.tmp 4],
 (.seq (.region [⟨(some 4), none, 0, .mv (.const (.slice none 0 0))⟩])
 (.seq (.block 0
  (.loop
   (.seq (.seq (.region [⟨(some 5), none, 0, .mv (.tmp 1)⟩,
     ⟨(some 6), none, 0, .bin .geq (.tmp 5) (.const (.int .u64 128))⟩])
   (.cond (.tmp 6)
    .skip
    (.exit 0)))
   (.seq (.block 1
    (.region [⟨(some 9), none, 0, .mv (.tmp 0)⟩,
      ⟨(some 10), none, 0, .mv (.tmp 1)⟩,
      ⟨(some 11), none, 0, .toInt .u8 (.tmp 10)⟩,
      ⟨(some 12), none, 0, .bin .or (.tmp 11) (.const (.int .u8 128))⟩,
      ⟨(some 13), none, 0, .buildSlice 1 1 [(.int .u8 0)] [(0, 1, (.tmp 12))]⟩,
      ⟨(some 14), none, 0, .append 1 1 [(.int .u8 0)] (.tmp 9) (.tmp 13)⟩,
      ⟨(some 0), none, 0, .mv (.tmp 14)⟩]))
   (.region [⟨(some 7), none, 0, .mv (.tmp 1)⟩,
     ⟨(some 8), none, 0, .bin .shr (.tmp 7) (.const (.int .u64 7))⟩,
     ⟨(some 1), none, 0, .mv (.tmp 8)⟩])))))
 (.seq (.region [⟨(some 15), none, 0, .mv (.tmp 0)⟩,
   ⟨(some 16), none, 0, .mv (.tmp 1)⟩,
   ⟨(some 17), none, 0, .toInt .u8 (.tmp 16)⟩,
   ⟨(some 18), none, 0, .buildSlice 1 1 [(.int .u8 0)] [(0, 1, (.tmp 17))]⟩,
   ⟨(some 19), none, 0, .append 1 1 [(.int .u8 0)] (.tmp 15) (.tmp 18)⟩,
   ⟨(some 4), none, 0, .mv (.tmp 19)⟩])
 .ret)))⟩
def a94 : AFunc := ⟨84, [.tmp 4, .tmp 5, .tmp 6],
 (.seq (.region [⟨(some 4), none, 0, .mv (.const (.int .u64 0))⟩,
   ⟨(some 5), none, 0, .mv (.const (.int .i64 0))⟩,
   ⟨(some 6), none, 0, .mv (.const (.int .i64 0))⟩])
 (.seq (.region [⟨(some 7), none, 0, .mv (.const (.int .i64 0))⟩])
 (.seq (.block 0
  (.loop
   (.seq (.seq (.region [⟨(some 11), none, 0, .mv (.tmp 7)⟩,
     ⟨(some 12), none, 0, .bin .lss (.tmp 11) (.const (.int .i64 10))⟩,
     ⟨(some 13), none, 0, .mv (.tmp 12)⟩,
     ⟨(some 14), (some (13, true)), 0, .mv (.tmp 1)⟩,
     ⟨(some 15), (some (13, true)), 0, .mv (.tmp 7)⟩,
     ⟨(some 16), (some (13, true)), 0, .bin .add (.tmp 14) (.tmp 15)⟩,
     ⟨(some 17), (some (13, true)), 0, .mv (.tmp 0)⟩,
     ⟨(some 18), (some (13, true)), 0, .lenStr (.tmp 17)⟩,
     ⟨(some 19), (some (13, true)), 0, .bin .lss (.tmp 16) (.tmp 18)⟩,
     ⟨(some 20), none, 0, .pick (.tmp 13) (.tmp 19) (.const (.bool false))⟩,
     ⟨(some 21), none, 0, .mv (.tmp 20)⟩,
     ⟨(some 22), (some (21, true)), 0, .mv (.tmp 0)⟩,
     ⟨(some 23), (some (21, true)), 0, .mv (.tmp 1)⟩,
     ⟨(some 24), (some (21, true)), 0, .mv (.tmp 7)⟩,
     ⟨(some 25), (some (21, true)), 0, .bin .add (.tmp 23) (.tmp 24)⟩,
     ⟨(some 26), (some (21, true)), 0, .indexStr (.tmp 22) (.tmp 25)⟩,
     ⟨(some 27), (some (21, true)), 0, .bin .geq (.tmp 26) (.const (.int .u8 128))⟩,
     ⟨(some 28), none, 0, .pick (.tmp 21) (.tmp 27) (.const (.bool false))⟩])
   (.cond (.tmp 28)
    .skip
    (.exit 0)))
   (.block 1
    (.region [⟨(some 29), none, 0, .mv (.tmp 7)⟩,
      ⟨(some 30), none, 0, .bin .add (.tmp 29) (.const (.int .i64 1))⟩,
      ⟨(some 7), none, 0, .mv (.tmp 30)⟩])))))
 (.seq (.seq (.region [⟨(some 31), none, 0, .mv (.tmp 7)⟩,
   ⟨(some 32), none, 0, .bin .eql (.tmp 31) (.const (.int .i64 10))⟩])
 (.cond (.tmp 32)
  (.seq (.region [⟨(some 33), none, 0, .mv (.tmp 1)⟩,
    ⟨(some 4), none, 0, .mv (.const (.int .u64 0))⟩,
    ⟨(some 5), none, 0, .mv (.tmp 33)⟩,
    ⟨(some 6), none, 0, .mv (.const (.int .i64 21))⟩])
  .ret)
  .skip))
 (.seq (.seq (.region [⟨(some 34), none, 0, .mv (.tmp 1)⟩,
   ⟨(some 35), none, 0, .mv (.tmp 7)⟩,
   ⟨(some 36), none, 0, .bin .add (.tmp 34) (.tmp 35)⟩,
   ⟨(some 37), none, 0, .mv (.tmp 0)⟩,
   ⟨(some 38), none, 0, .lenStr (.tmp 37)⟩,
   ⟨(some 39), none, 0, .bin .geq (.tmp 36) (.tmp 38)⟩])
 (.cond (.tmp 39)
  (.seq (.region [⟨(some 40), none, 0, .mv (.tmp 1)⟩,
    ⟨(some 4), none, 0, .mv (.const (.int .u64 0))⟩,
    ⟨(some 5), none, 0, .mv (.tmp 40)⟩,
    ⟨(some 6), none, 0, .mv (.const (.int .i64 20))⟩])
  .ret)
  .skip))
 (.seq (.region [⟨(some 41), none, 0, .mv (.tmp 0)⟩,
   ⟨(some 42), none, 0, .mv (.tmp 1)⟩,
   ⟨(some 43), none, 0, .mv (.tmp 7)⟩,
   ⟨(some 44), none, 0, .bin .add (.tmp 42) (.tmp 43)⟩,
   ⟨(some 45), none, 0, .indexStr (.tmp 41) (.tmp 44)⟩,
   ⟨(some 8), none, 0, .mv (.tmp 45)⟩])
 (.seq (.seq (.region [⟨(some 46), none, 0, .mv (.tmp 7)⟩,
   ⟨(some 47), none, 0, .bin .gtr (.tmp 46) (.const (.int .i64 0))⟩,
   ⟨(some 48), none, 0, .mv (.tmp 47)⟩,
   ⟨(some 49), (some (48, true)), 0, .mv (.tmp 8)⟩,
   ⟨(some 50), (some (48, true)), 0, .bin .eql (.tmp 49) (.const (.int .u8 0))⟩,
   ⟨(some 51), none, 0, .pick (.tmp 48) (.tmp 50) (.const (.bool false))⟩,
   ⟨(some 52), none, 0, .mv (.tmp 51)⟩,
   ⟨(some 53), (some (52, false)), 0, .mv (.tmp 7)⟩,
   ⟨(some 54), (some (52, false)), 0, .bin .eql (.tmp 53) (.const (.int .i64 9))⟩,
   ⟨(some 55), (some (52, false)), 0, .mv (.tmp 54)⟩,
   ⟨(some 56), (some (55, true)), 0, .mv (.tmp 8)⟩,
   ⟨(some 57), (some (55, true)), 0, .bin .neq (.tmp 56) (.const (.int .u8 1))⟩,
   ⟨(some 58), (some (52, false)), 0, .pick (.tmp 55) (.tmp 57) (.const (.bool false))⟩,
   ⟨(some 59), none, 0, .pick (.tmp 52) (.const (.bool true)) (.tmp 58)⟩])
 (.cond (.tmp 59)
  (.seq (.region [⟨(some 60), none, 0, .mv (.tmp 1)⟩,
    ⟨(some 4), none, 0, .mv (.const (.int .u64 0))⟩,
    ⟨(some 5), none, 0, .mv (.tmp 60)⟩,
    ⟨(some 6), none, 0, .mv (.const (.int .i64 21))⟩])
  .ret)
  .skip))
 (.seq (.region [⟨(some 61), none, 0, .mv (.tmp 8)⟩,
   ⟨(some 62), none, 0, .toInt .u64 (.tmp 61)⟩,
   ⟨(some 9), none, 0, .mv (.tmp 62)⟩])
 (.seq (.seq (.region [⟨(some 63), none, 0, .mv (.tmp 7)⟩,
   ⟨(some 64), none, 0, .bin .sub (.tmp 63) (.const (.int .i64 1))⟩,
   ⟨(some 10), none, 0, .mv (.tmp 64)⟩])
 (.block 2
  (.loop
   (.seq (.seq (.region [⟨(some 65), none, 0, .mv (.tmp 10)⟩,
     ⟨(some 66), none, 0, .bin .geq (.tmp 65) (.const (.int .i64 0))⟩])
   (.cond (.tmp 66)
    .skip
    (.exit 2)))
   (.seq (.block 3
    (.region [⟨(some 69), none, 0, .mv (.tmp 9)⟩,
      ⟨(some 70), none, 0, .bin .mul (.tmp 69) (.const (.int .u64 128))⟩,
      ⟨(some 71), none, 0, .mv (.tmp 0)⟩,
      ⟨(some 72), none, 0, .mv (.tmp 1)⟩,
      ⟨(some 73), none, 0, .mv (.tmp 10)⟩,
      ⟨(some 74), none, 0, .bin .add (.tmp 72) (.tmp 73)⟩,
      ⟨(some 75), none, 0, .indexStr (.tmp 71) (.tmp 74)⟩,
      ⟨(some 76), none, 0, .toInt .u64 (.tmp 75)⟩,
      ⟨(some 77), none, 0, .bin .add (.tmp 70) (.tmp 76)⟩,
      ⟨(some 78), none, 0, .bin .sub (.tmp 77) (.const (.int .u64 128))⟩,
      ⟨(some 9), none, 0, .mv (.tmp 78)⟩]))
   (.region [⟨(some 67), none, 0, .mv (.tmp 10)⟩,
     ⟨(some 68), none, 0, .bin .sub (.tmp 67) (.const (.int .i64 1))⟩,
     ⟨(some 10), none, 0, .mv (.tmp 68)⟩]))))))
 (.seq (.region [⟨(some 79), none, 0, .mv (.tmp 9)⟩,
   ⟨(some 80), none, 0, .mv (.tmp 1)⟩,
   ⟨(some 81), none, 0, .mv (.tmp 7)⟩,
   ⟨(some 82), none, 0, .bin .add (.tmp 80) (.tmp 81)⟩,
   ⟨(some 83), none, 0, .bin .add (.tmp 82) (.const (.int .i64 1))⟩,
   ⟨(some 4), none, 0, .mv (.tmp 79)⟩,
   ⟨(some 5), none, 0, .mv (.tmp 83)⟩,
   ⟨(some 6), none, 0, .mv (.const (.int .i64 0))⟩])
 .ret))))))))))⟩
end Go.Am.R1B
