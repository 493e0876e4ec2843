/-
  The functions of the program that are reached, compiled for the abstract machine. Written by program.
-/
import Derived.Test.YtdmijaofelgonaaGreatDoorAmO
import Derived.KernelRfl
import Derived.Test.YtdmijaofelgonaaGreatDoorProg
set_option maxRecDepth 100000
namespace Go.Am.R1
open Go Go.Am
def a77 : AFunc := ⟨65, [],
 (.seq (.region [o 3 (.box (t 1))])
 (.seq (.region [o 8 (.fieldAddr 10 (t 3)),
   o 9 (.load false 1 (t 8)),
   o 10 (.call 118 [(t 9)]),
   o 7 (.mv (t 10)),
   o 11 (.extract 0 (t 7)),
   o 12 (.extract 1 (t 7)),
   o 4 (.mv (t 11)),
   o 5 (.mv (t 12))])
 (.seq (.seq (.region [o 13 (.mv (t 5)),
   o 14 (.bin .neq (t 13) (.const (.int .i64 0))),
   o 15 (.mv (t 14)),
   ⟨(some 16), (some (15, false)), 0, .mv (t 0)⟩,
   ⟨(some 17), (some (15, false)), 0, .fieldAddr 4 (t 3)⟩,
   ⟨(some 18), (some (15, false)), 0, .load false 1 (t 17)⟩,
   ⟨(some 19), (some (15, false)), 0, .fieldAddr 5 (t 3)⟩,
   ⟨(some 20), (some (15, false)), 0, .load false 1 (t 19)⟩,
   ⟨(some 21), (some (15, false)), 0, .call 109 [(t 16), (t 18), (t 20)]⟩,
   ⟨(some 22), (some (15, false)), 0, .un .not (t 21)⟩,
   o 23 (.pick (t 15) (.const (.bool true)) (t 22))])
 (.cond (t 23)
  .ret
  .skip))
 (.seq (.draw [o 25 (.mv (t 0)),
   ⟨(some 26), none, 1, .nilCheck (t 25)⟩,
   ⟨(some 27), none, 3, .fieldAddr 17 (t 26)⟩,
   ⟨(some 28), none, 7, .load false 1 (t 27)⟩,
   o 29 (.fieldAddr 4 (t 3)),
   ⟨(some 30), none, 16, .load false 1 (t 29)⟩,
   o 31 (.fieldAddr 5 (t 3)),
   ⟨(some 32), none, 64, .load false 1 (t 31)⟩,
   o 33 (.fieldAddr 6 (t 3)),
   ⟨(some 34), none, 256, .load false 1 (t 33)⟩,
   o 35 (.mv (t 4)),
   ⟨(some 36), none, 2047, .call 120 [(t 28), (t 30), (t 32), (t 34), (t 35)]⟩,
   ⟨(some 24), none, 4095, .mv (t 36)⟩,
   ⟨(some 37), none, 8191, .extract 0 (t 24)⟩,
   ⟨(some 38), none, 8191, .extract 1 (t 24)⟩,
   ⟨(some 6), none, 16383, .mv (t 37)⟩,
   ⟨(some 5), none, 65535, .mv (t 38)⟩])
 (.seq (.region [o 39 (.mv (t 5)),
   o 40 (.bin .eql (t 39) (.const (.int .i64 0))),
   o 41 (.mv (t 40)),
   ⟨(some 42), (some (41, false)), 0, .mv (t 5)⟩,
   ⟨(some 43), (some (41, false)), 0, .bin .eql (t 42) (.const (.int .i64 182))⟩,
   ⟨(some 44), (some (41, false)), 0, .mv (t 43)⟩,
   ⟨(some 45), (some (44, true)), 0, .fieldAddr 6 (t 3)⟩,
   ⟨(some 46), (some (44, true)), 0, .load false 1 (t 45)⟩,
   ⟨(some 47), (some (44, true)), 0, .mv (t 6)⟩,
   ⟨(some 48), (some (44, true)), 0, .bin .gtr (t 46) (t 47)⟩,
   ⟨(some 49), (some (41, false)), 0, .pick (t 44) (t 48) (.const (.bool false))⟩,
   o 50 (.pick (t 41) (.const (.bool true)) (t 49))])
 (.cond (t 50)
  (.draw [o 51 (.mv (t 0)),
    o 52 (.fieldAddr 1 (t 3)),
    ⟨(some 53), none, 2, .load false 1 (t 52)⟩,
    o 54 (.mv (t 0)),
    ⟨(some 55), none, 8, .nilCheck (t 54)⟩,
    ⟨(some 56), none, 24, .fieldAddr 1 (t 55)⟩,
    ⟨(some 57), none, 56, .load false 1 (t 56)⟩,
    o 58 (.fieldAddr 4 (t 3)),
    ⟨(some 59), none, 128, .load false 1 (t 58)⟩,
    o 60 (.fieldAddr 5 (t 3)),
    ⟨(some 61), none, 512, .load false 1 (t 60)⟩,
    o 62 (.mv (t 6)),
    ⟨(some 63), none, 4094, .build [(.int .u8 0), (.int .i64 0), (.int .i64 0), (.int .i64 0), (.int .i64 0), (.int .i64 0), (.int .i64 0), (.bool false), (.slice none 0 0), (.slice none 0 0), (.string ⟨#[]⟩)] [(0, 1, (.const (.int .u8 15))), (2, 1, (t 53)), (3, 1, (t 57)), (4, 1, (t 59)), (5, 1, (t 61)), (6, 1, (t 62))]⟩,
    ⟨(some 64), none, 8191, .call 83 [(t 51), (t 63)]⟩])
  .skip))))))⟩
theorem c77 : compFn Go.Proofs.Tryz.prog Go.Proofs.Tryz.f77 = some a77 := by kernel_rfl
def a78 : AFunc := ⟨67, [],
 (.seq (.region [o 2 (.box (t 0)),
   o 3 (.box (t 1))])
 (.seq (.region [o 11 (.fieldAddr 10 (t 3)),
   o 12 (.load false 1 (t 11)),
   o 13 (.call 121 [(t 12)]),
   o 10 (.mv (t 13)),
   o 14 (.extract 0 (t 10)),
   o 15 (.extract 1 (t 10)),
   o 4 (.alloc [(.int .i64 0), (.int .i64 0), (.string ⟨#[]⟩)]),
   ⟨none, none, 0, .store 3 (t 4) (t 14)⟩,
   o 5 (.mv (t 15))])
 (.seq (.seq (.region [o 16 (.mv (t 5)),
   o 17 (.bin .neq (t 16) (.const (.int .i64 0)))])
 (.cond (t 17)
  .ret
  .skip))
 (.seq (.region [o 19 (.load false 1 (t 2)),
   o 20 (.load true 11 (t 3)),
   o 21 (.load true 3 (t 4)),
   o 22 (.call 122 [(t 19), (t 20), (t 21)]),
   o 18 (.mv (t 22)),
   o 23 (.extract 0 (t 18)),
   o 24 (.extract 1 (t 18)),
   o 25 (.extract 2 (t 18)),
   o 6 (.mv (t 23)),
   o 7 (.mv (t 24)),
   o 8 (.mv (t 25))])
 (.seq (.seq (.region [o 26 (.mv (t 8)),
   o 27 (.bin .neq (t 26) (.const (.int .i64 0))),
   o 28 (.mv (t 27)),
   ⟨(some 29), (some (28, false)), 0, .mv (t 7)⟩,
   o 30 (.pick (t 28) (.const (.bool true)) (t 29))])
 (.cond (t 30)
  (.seq (.region [o 31 (.load false 1 (t 2)),
    o 32 (.fieldAddr 1 (t 3)),
    o 33 (.load false 1 (t 32)),
    o 34 (.fieldAddr 3 (t 3)),
    o 35 (.load false 1 (t 34)),
    o 36 (.mv (t 8)),
    o 37 (.mv (t 6)),
    o 38 (.build [(.int .u8 0), (.int .i64 0), (.int .i64 0), (.int .i64 0), (.int .i64 0), (.int .i64 0), (.int .i64 0), (.bool false), (.slice none 0 0), (.slice none 0 0), (.string ⟨#[]⟩)] [(0, 1, (.const (.int .u8 19))), (2, 1, (t 33)), (3, 1, (t 35)), (4, 1, (t 36)), (5, 1, (t 37))]),
    o 39 (.call 83 [(t 31), (t 38)])])
  .ret)
  .skip))
 (.seq (.region [o 40 (.load false 1 (t 2)),
   o 41 (.fieldAddr 4 (t 3)),
   o 42 (.load false 1 (t 41)),
   o 43 (.fieldAddr 5 (t 3)),
   o 44 (.load false 1 (t 43)),
   o 45 (.call 106 [(t 40), (t 42), (t 44)]),
   o 9 (.alloc [(.pointer none)]),
   ⟨none, none, 0, .store 1 (t 9) (t 45)⟩])
 (.seq (.draw [o 46 (.load false 1 (t 9)),
   o 47 (.load false 1 (t 9)),
   ⟨(some 48), none, 2, .nilCheck (t 47)⟩,
   ⟨(some 49), none, 6, .fieldAddr 5 (t 48)⟩,
   ⟨(some 50), none, 14, .load false 1 (t 49)⟩,
   o 51 (.fieldAddr 1 (t 3)),
   ⟨(some 52), none, 32, .load false 1 (t 51)⟩,
   o 53 (.fieldAddr 3 (t 3)),
   ⟨(some 54), none, 128, .load false 1 (t 53)⟩,
   o 55 (.mv (t 6)),
   ⟨(some 56), none, 992, .build [(.int .i64 0), (.int .i64 0), (.int .i64 0)] [(0, 1, (t 52)), (1, 1, (t 54)), (2, 1, (t 55))]⟩,
   ⟨(some 57), none, 2016, .buildSlice 3 1 [(.int .i64 0), (.int .i64 0), (.int .i64 0)] [(0, 3, (t 56))]⟩,
   ⟨(some 58), none, 4094, .append 3 24 [(.int .i64 0), (.int .i64 0), (.int .i64 0)] (t 50) (t 57)⟩,
   ⟨(some 59), none, 8191, .nilCheck (t 46)⟩,
   ⟨(some 60), none, 16383, .fieldAddr 5 (t 59)⟩,
   ⟨none, none, 32767, .store 1 (t 60) (t 58)⟩])
 (.seq (.region [o 61 (.load false 1 (t 9)),
   o 62 (.mkFunc (.func 123) [] [(t 2), (t 9)]),
   o 63 (.call 50 [(t 61), (t 62)])])
 (.region [o 64 (.load false 1 (t 2)),
   o 65 (.load false 1 (t 9)),
   o 66 (.call 112 [(t 64), (t 65)])])))))))))⟩
theorem c78 : compFn Go.Proofs.Tryz.prog Go.Proofs.Tryz.f78 = some a78 := by kernel_rfl
def a79 : AFunc := ⟨53, [],
 (.seq (.region [o 3 (.box (t 1))])
 (.seq (.region [o 7 (.fieldAddr 1 (t 3)),
   o 8 (.load false 1 (t 7)),
   o 9 (.fieldAddr 3 (t 3)),
   o 10 (.load false 1 (t 9)),
   o 11 (.build [(.int .u8 0), (.int .i64 0), (.int .i64 0), (.int .i64 0), (.int .i64 0), (.int .i64 0), (.int .i64 0), (.bool false), (.slice none 0 0), (.slice none 0 0), (.string ⟨#[]⟩)] [(0, 1, (.const (.int .u8 21))), (2, 1, (t 8)), (3, 1, (t 10))]),
   o 4 (.alloc [(.int .u8 0), (.int .i64 0), (.int .i64 0), (.int .i64 0), (.int .i64 0), (.int .i64 0), (.int .i64 0), (.bool false), (.slice none 0 0), (.slice none 0 0), (.string ⟨#[]⟩)]),
   ⟨none, none, 0, .store 11 (t 4) (t 11)⟩])
 (.seq (.region [o 5 (.mv (.const (.int .i64 190)))])
 (.seq (.region [o 12 (.mv (t 0)),
   o 13 (.fieldAddr 4 (t 3)),
   o 14 (.load false 1 (t 13)),
   o 15 (.fieldAddr 5 (t 3)),
   o 16 (.load false 1 (t 15)),
   o 17 (.call 106 [(t 12), (t 14), (t 16)]),
   o 6 (.mv (t 17))])
 (.seq (.seq (.region [o 18 (.mv (t 6)),
   o 19 (.eqNil .ptr true (t 18) (.const (.pointer none)))])
 (.cond (t 19)
  (.region [o 20 (.mv (t 0)),
    o 21 (.mv (t 6)),
    o 22 (.call 44 [(t 20), (t 21)]),
    o 5 (.mv (t 22))])
  .skip))
 (.seq (.seq (.region [o 23 (.mv (t 5)),
   o 24 (.fieldAddr 4 (t 4)),
   ⟨none, none, 0, .store 1 (t 24) (t 23)⟩])
 (.seq (.region [o 25 (.mv (t 5)),
   o 26 (.bin .eql (t 25) (.const (.int .i64 0)))])
 (.cond (t 26)
  (.seq (.region [o 27 (.mv (t 0)),
    o 28 (.mv (t 6)),
    o 29 (.call 82 [(t 27), (t 28)]),
    o 30 (.fieldAddr 5 (t 4)),
    ⟨none, none, 0, .store 1 (t 30) (t 29)⟩])
  (.seq (.region [o 31 (.fieldAddr 6 (t 3)),
    o 32 (.load false 1 (t 31)),
    o 33 (.bin .leq (.const (.int .i64 0)) (t 32)),
    o 34 (.mv (t 33)),
    ⟨(some 35), (some (34, true)), 0, .fieldAddr 6 (t 3)⟩,
    ⟨(some 36), (some (34, true)), 0, .load false 1 (t 35)⟩,
    ⟨(some 37), (some (34, true)), 0, .fieldAddr 5 (t 4)⟩,
    ⟨(some 38), (some (34, true)), 0, .load false 1 (t 37)⟩,
    ⟨(some 39), (some (34, true)), 0, .bin .lss (t 36) (t 38)⟩,
    o 40 (.pick (t 34) (t 39) (.const (.bool false)))])
  (.cond (t 40)
   (.draw [o 41 (.mv (t 0)),
     o 42 (.mv (t 6)),
     ⟨(some 43), none, 3, .call 88 [(t 41), (t 42)]⟩,
     o 44 (.fieldAddr 6 (t 3)),
     ⟨(some 45), none, 8, .load false 1 (t 44)⟩,
     ⟨(some 46), none, 31, .indexSl 3 (t 43) (t 45)⟩,
     ⟨(some 47), none, 63, .fieldAddr 2 (t 46)⟩,
     ⟨(some 48), none, 127, .load false 1 (t 47)⟩,
     ⟨(some 49), none, 255, .fieldAddr 10 (t 4)⟩,
     ⟨none, none, 511, .store 1 (t 49) (t 48)⟩])
   .skip)))
  .skip)))
 (.region [o 50 (.mv (t 0)),
   o 51 (.load true 11 (t 4)),
   o 52 (.call 83 [(t 50), (t 51)])])))))))⟩
theorem c79 : compFn Go.Proofs.Tryz.prog Go.Proofs.Tryz.f79 = some a79 := by kernel_rfl
def a80 : AFunc := ⟨4, [.tmp 2],
 (.seq (.region [o 1 (.box (t 0)),
   o 2 (.mv (.const .nilFunc))])
 (.seq (.region [o 3 (.mkFunc (.func 124) [] [(t 1)]),
   o 2 (.mv (t 3))])
 .ret))⟩
theorem c80 : compFn Go.Proofs.Tryz.prog Go.Proofs.Tryz.f80 = some a80 := by kernel_rfl
def a81 : AFunc := ⟨24, [.tmp 6],
 (.seq (.region [o 6 (.mv (.const (.bool false)))])
 (.seq (.region [o 10 (.mv (t 0)),
   o 11 (.nilCheck (t 10)),
   o 12 (.fieldAddr 0 (t 11)),
   o 13 (.load false 1 (t 12)),
   o 14 (.mv (t 1)),
   o 15 (.lookup .int (.int .i64 0) true (t 13) (t 14)),
   o 9 (.mv (t 15)),
   o 16 (.extract 0 (t 9)),
   o 17 (.extract 1 (t 9)),
   o 7 (.mv (t 16)),
   o 8 (.mv (t 17))])
 (.seq (.region [o 18 (.mv (t 8)),
   o 19 (.mv (t 18)),
   ⟨(some 20), (some (19, true)), 0, .mv (t 2)⟩,
   ⟨(some 21), (some (19, true)), 0, .mv (t 7)⟩,
   ⟨(some 22), (some (19, true)), 0, .bin .lss (t 20) (t 21)⟩,
   o 23 (.pick (t 19) (t 22) (.const (.bool false))),
   o 6 (.mv (t 23))])
 .ret)))⟩
theorem c81 : compFn Go.Proofs.Tryz.prog Go.Proofs.Tryz.f81 = some a81 := by kernel_rfl
def a82 : AFunc := ⟨27, [.tmp 4],
 (.seq (.region [o 4 (.mv (.const (.int .i64 0)))])
 (.seq (.region [o 8 (.mv (t 0)),
   o 9 (.mv (t 1)),
   o 10 (.call 88 [(t 8), (t 9)]),
   o 11 (.lenSl (t 10)),
   o 5 (.mv (t 11))])
 (.seq (.seq (.region [o 12 (.mv (t 1)),
   o 13 (.nilCheck (t 12)),
   o 14 (.fieldAddr 2 (t 13)),
   o 15 (.load false 1 (t 14)),
   o 16 (.lenSl (t 15)),
   o 17 (.mv (.const (.int .i64 0)))])
 (.block 0
  (.loop
   (.seq (.region [o 18 (.bin .lss (t 17) (t 16))])
   (.seq (.cond (t 18)
    .skip
    (.exit 0))
   (.seq (.block 1
    (.seq (.region [o 19 (.indexSl 2 (t 15) (t 17)),
      o 20 (.load true 2 (t 19)),
      o 7 (.alloc [(.int .i64 0), (.int .i64 0)]),
      ⟨none, none, 0, .store 2 (t 7) (t 20)⟩])
    (.region [o 21 (.mv (t 5)),
      o 22 (.fieldAddr 1 (t 7)),
      o 23 (.load false 1 (t 22)),
      o 24 (.min [(t 21), (t 23)]),
      o 5 (.mv (t 24))])))
   (.region [o 25 (.bin .add (t 17) (.const (.int .i64 1))),
     o 17 (.mv (t 25))])))))))
 (.seq (.region [o 26 (.mv (t 5)),
   o 4 (.mv (t 26))])
 .ret))))⟩
theorem c82 : compFn Go.Proofs.Tryz.prog Go.Proofs.Tryz.f82 = some a82 := by kernel_rfl
def a83 : AFunc := ⟨25, [],
 (.seq (.region [o 3 (.box (t 1))])
 (.seq (.draw [o 4 (.mv (t 0)),
   ⟨(some 5), none, 1, .nilCheck (t 4)⟩,
   ⟨(some 6), none, 3, .fieldAddr 2 (t 5)⟩,
   ⟨(some 7), none, 7, .fieldAddr 0 (t 6)⟩,
   ⟨(some 8), none, 15, .load false 1 (t 7)⟩,
   o 9 (.mv (t 0)),
   ⟨(some 10), none, 32, .nilCheck (t 9)⟩,
   ⟨(some 11), none, 96, .fieldAddr 0 (t 10)⟩,
   ⟨(some 12), none, 224, .load false 1 (t 11)⟩,
   ⟨(some 13), none, 511, .bin .add (t 8) (t 12)⟩,
   ⟨(some 14), none, 1023, .fieldAddr 1 (t 3)⟩,
   ⟨none, none, 2047, .store 1 (t 14) (t 13)⟩])
 (.draw [o 15 (.mv (t 0)),
   o 16 (.mv (t 0)),
   ⟨(some 17), none, 2, .nilCheck (t 16)⟩,
   ⟨(some 18), none, 6, .fieldAddr 23 (t 17)⟩,
   ⟨(some 19), none, 14, .load false 1 (t 18)⟩,
   o 20 (.load true 11 (t 3)),
   ⟨(some 21), none, 32, .buildSlice 11 1 [(.int .u8 0), (.int .i64 0), (.int .i64 0), (.int .i64 0), (.int .i64 0), (.int .i64 0), (.int .i64 0), (.bool false), (.slice none 0 0), (.slice none 0 0), (.string ⟨#[]⟩)] [(0, 11, (t 20))]⟩,
   ⟨(some 22), none, 126, .append 11 128 [(.int .u8 0), (.int .i64 0), (.int .i64 0), (.int .i64 0), (.int .i64 0), (.int .i64 0), (.int .i64 0), (.bool false), (.slice none 0 0), (.slice none 0 0), (.string ⟨#[]⟩)] (t 19) (t 21)⟩,
   ⟨(some 23), none, 255, .nilCheck (t 15)⟩,
   ⟨(some 24), none, 511, .fieldAddr 23 (t 23)⟩,
   ⟨none, none, 1023, .store 1 (t 24) (t 22)⟩])))⟩
theorem c83 : compFn Go.Proofs.Tryz.prog Go.Proofs.Tryz.f83 = some a83 := by kernel_rfl
def a85 : AFunc := ⟨11, [],
 (.seq (.region [o 3 (.mv (t 0)),
   o 4 (.lenSl (t 3)),
   o 2 (.mv (t 4))])
 (.region [o 5 (.mv (t 0)),
   o 6 (.mv (t 2)),
   o 7 (.mv (t 2)),
   o 8 (.toInt .u64 (t 7)),
   o 9 (.call 127 [(t 8)]),
   o 10 (.call 126 [(t 5), (.const (.int .i64 0)), (t 6), (t 9)])]))⟩
theorem c85 : compFn Go.Proofs.Tryz.prog Go.Proofs.Tryz.f85 = some a85 := by kernel_rfl
def a87 : AFunc := ⟨18, [.tmp 2, .tmp 3],
 (.seq (.region [o 2 (.mv (.const (.string ⟨#[]⟩))),
   o 3 (.mv (.const (.int .i64 0)))])
 (.seq (.region [o 6 (.mv (t 0)),
   o 7 (.lenSl (t 6)),
   o 8 (.toInt .u64 (t 7)),
   o 9 (.buildSlice 1 1 [(.int .u64 0)] [(0, 1, (t 8))]),
   o 10 (.call 31 [(.const (.string ⟨#[]⟩)), (t 9)]),
   o 4 (.alloc [(.string ⟨#[]⟩)]),
   ⟨none, none, 0, .store 1 (t 4) (t 10)⟩])
 (.seq (.seq (.region [o 11 (.mv (t 0)),
   o 12 (.mkFunc (.func 129) [] [(t 4)]),
   o 13 (.call 128 [(t 11), (t 12)]),
   o 5 (.mv (t 13))])
 (.seq (.region [o 14 (.mv (t 5)),
   o 15 (.bin .neq (t 14) (.const (.int .i64 0)))])
 (.cond (t 15)
  (.seq (.region [o 16 (.mv (t 5)),
    o 2 (.mv (.const (.string ⟨#[]⟩))),
    o 3 (.mv (t 16))])
  .ret)
  .skip)))
 (.seq (.region [o 17 (.load false 1 (t 4)),
   o 2 (.mv (t 17)),
   o 3 (.mv (.const (.int .i64 0)))])
 .ret))))⟩
theorem c87 : compFn Go.Proofs.Tryz.prog Go.Proofs.Tryz.f87 = some a87 := by kernel_rfl
def a88 : AFunc := ⟨19, [.tmp 4],
 (.seq (.region [o 4 (.mv (.const (.slice none 0 0)))])
 (.seq (.region [o 9 (.mv (t 0)),
   o 10 (.mv (t 1)),
   o 11 (.nilCheck (t 10)),
   o 12 (.fieldAddr 0 (t 11)),
   o 13 (.load false 1 (t 12)),
   o 14 (.call 23 [(t 9), (t 13)]),
   o 8 (.mv (t 14)),
   o 15 (.extract 0 (t 8)),
   o 16 (.extract 1 (t 8)),
   o 17 (.extract 2 (t 8)),
   o 5 (.mv (t 15)),
   o 6 (.mv (t 16)),
   o 7 (.mv (t 17))])
 (.seq (.region [o 18 (.mv (t 6)),
   o 4 (.mv (t 18))])
 .ret)))⟩
theorem c88 : compFn Go.Proofs.Tryz.prog Go.Proofs.Tryz.f88 = some a88 := by kernel_rfl
def a89 : AFunc := ⟨33, [],
 (.seq (.region [o 7 (.box (t 3))])
 (.seq (.draw [o 8 (.mv (t 0)),
   o 9 (.mv (t 2)),
   ⟨(some 10), none, 2, .nilCheck (t 9)⟩,
   ⟨(some 11), none, 6, .fieldAddr 0 (t 10)⟩,
   ⟨(some 12), none, 14, .load false 1 (t 11)⟩,
   ⟨(some 13), none, 31, .call 117 [(t 8), (t 12)]⟩,
   o 14 (.mv (t 2)),
   ⟨(some 15), none, 64, .nilCheck (t 14)⟩,
   ⟨(some 16), none, 192, .fieldAddr 0 (t 15)⟩,
   ⟨(some 17), none, 448, .load false 1 (t 16)⟩,
   o 18 (.mv (t 1)),
   ⟨(some 19), none, 1024, .nilCheck (t 18)⟩,
   ⟨(some 20), none, 3072, .fieldAddr 0 (t 19)⟩,
   ⟨(some 21), none, 7168, .load false 1 (t 20)⟩,
   o 22 (.mv (t 1)),
   ⟨(some 23), none, 16384, .nilCheck (t 22)⟩,
   ⟨(some 24), none, 49152, .fieldAddr 1 (t 23)⟩,
   ⟨(some 25), none, 114688, .load false 1 (t 24)⟩,
   ⟨(some 26), none, 63, .fieldAddr 2 (t 7)⟩,
   ⟨none, none, 262207, .store 1 (t 26) (t 13)⟩,
   ⟨(some 27), none, 787455, .fieldAddr 3 (t 7)⟩,
   ⟨none, none, 1836031, .store 1 (t 27) (t 17)⟩,
   ⟨(some 28), none, 3948543, .fieldAddr 4 (t 7)⟩,
   ⟨none, none, 8142847, .store 1 (t 28) (t 21)⟩,
   ⟨(some 29), none, 16777215, .fieldAddr 5 (t 7)⟩,
   ⟨none, none, 33554431, .store 1 (t 29) (t 25)⟩])
 (.region [o 30 (.mv (t 0)),
   o 31 (.load true 11 (t 7)),
   o 32 (.call 83 [(t 30), (t 31)])])))⟩
theorem c89 : compFn Go.Proofs.Tryz.prog Go.Proofs.Tryz.f89 = some a89 := by kernel_rfl
def a91 : AFunc := ⟨4, [.tmp 2],
 (.seq (.region [o 1 (.box (t 0)),
   o 2 (.mv (.const .nilFunc))])
 (.seq (.region [o 3 (.mkFunc (.func 133) [] [(t 1)]),
   o 2 (.mv (t 3))])
 .ret))⟩
theorem c91 : compFn Go.Proofs.Tryz.prog Go.Proofs.Tryz.f91 = some a91 := by kernel_rfl
def a92 : AFunc := ⟨12, [.tmp 4],
 (.seq (.region [o 4 (.mv (.const (.string ⟨#[]⟩)))])
 (.seq (.region [o 5 (.mv (t 0)),
   o 6 (.mv (t 1)),
   o 7 (.lenStr (t 6)),
   o 8 (.toInt .u64 (t 7)),
   o 9 (.call 32 [(t 5), (t 8)]),
   o 10 (.mv (t 1)),
   o 11 (.bin .add (t 9) (t 10)),
   o 4 (.mv (t 11))])
 .ret))⟩
theorem c92 : compFn Go.Proofs.Tryz.prog Go.Proofs.Tryz.f92 = some a92 := by kernel_rfl
def a93 : AFunc := ⟨8, [.tmp 2],
 (.seq (.region [o 2 (.mv (.const (.slice none 0 0)))])
 (.seq (.seq (.region [o 3 (.mv (t 0)),
   o 4 (.eqNil .sl false (t 3) (.const (.slice none 0 0)))])
 (.cond (t 4)
  (.seq (.region [o 2 (.mv (.const (.slice none 0 0)))])
  .ret)
  .skip))
 (.seq (.region [o 5 (.buildSlice 3 0 [] []),
   o 6 (.mv (t 0)),
   o 7 (.append 3 32 [(.int .i64 0), (.int .i64 0), (.string ⟨#[]⟩)] (t 5) (t 6)),
   o 2 (.mv (t 7))])
 .ret)))⟩
theorem c93 : compFn Go.Proofs.Tryz.prog Go.Proofs.Tryz.f93 = some a93 := by kernel_rfl
def a95 : AFunc := ⟨27, [.tmp 2],
 (.seq (.region [o 2 (.mv (.const (.bool false)))])
 (.seq (.seq (.region [o 3 (.mv (t 0)),
   o 4 (.nilCheck (t 3)),
   o 5 (.fieldAddr 4 (t 4)),
   o 6 (.load false 1 (t 5)),
   o 7 (.bin .lss (t 6) (.const (.int .i64 0)))])
 (.cond (t 7)
  (.seq (.region [o 2 (.mv (.const (.bool false)))])
  .ret)
  .skip))
 (.seq (.region [o 8 (.mv (t 0)),
   o 9 (.nilCheck (t 8)),
   o 10 (.fieldAddr 4 (t 9)),
   o 11 (.load false 1 (t 10)),
   o 12 (.bin .sub (t 11) (.const (.int .i64 1))),
   o 13 (.nilCheck (t 8)),
   o 14 (.fieldAddr 4 (t 13)),
   ⟨none, none, 0, .store 1 (t 14) (t 12)⟩])
 (.seq (.region [o 15 (.mv (t 0)),
   o 16 (.mv (t 0)),
   o 17 (.nilCheck (t 16)),
   o 18 (.fieldAddr 4 (t 17)),
   o 19 (.load false 1 (t 18)),
   o 20 (.bin .lss (t 19) (.const (.int .i64 0))),
   o 21 (.nilCheck (t 15)),
   o 22 (.fieldAddr 3 (t 21)),
   ⟨none, none, 0, .store 1 (t 22) (t 20)⟩])
 (.seq (.region [o 23 (.mv (t 0)),
   o 24 (.nilCheck (t 23)),
   o 25 (.fieldAddr 3 (t 24)),
   o 26 (.load false 1 (t 25)),
   o 2 (.mv (t 26))])
 .ret)))))⟩
theorem c95 : compFn Go.Proofs.Tryz.prog Go.Proofs.Tryz.f95 = some a95 := by kernel_rfl
def a96 : AFunc := ⟨23, [.tmp 4],
 (.seq (.region [o 4 (.mv (.const (.pointer none)))])
 (.seq (.region [o 6 (.mv (t 0)),
   o 7 (.nilCheck (t 6)),
   o 8 (.fieldAddr 2 (t 7)),
   o 9 (.load false 1 (t 8)),
   o 10 (.mv (t 1)),
   o 11 (.lookup .str (.pointer none) false (t 9) (t 10)),
   o 5 (.mv (t 11))])
 (.seq (.seq (.region [o 12 (.mv (t 5)),
   o 13 (.eqNil .ptr false (t 12) (.const (.pointer none)))])
 (.cond (t 13)
  (.seq (.region [o 14 (.build [(.string ⟨#[]⟩), (.int .i64 0), (.bool false)] []),
    o 15 (.box (t 14)),
    o 5 (.mv (t 15))])
  (.region [o 16 (.mv (t 0)),
    o 17 (.nilCheck (t 16)),
    o 18 (.fieldAddr 2 (t 17)),
    o 19 (.load false 1 (t 18)),
    o 20 (.mv (t 1)),
    o 21 (.mv (t 5)),
    ⟨none, none, 0, .mapSet .str (t 19) (t 20) (t 21)⟩]))
  .skip))
 (.seq (.region [o 22 (.mv (t 5)),
   o 4 (.mv (t 22))])
 .ret))))⟩
theorem c96 : compFn Go.Proofs.Tryz.prog Go.Proofs.Tryz.f96 = some a96 := by kernel_rfl
def a97 : AFunc := ⟨11, [.tmp 4, .tmp 5],
 (.seq (.region [o 4 (.mv (.const (.string ⟨#[]⟩))),
   o 5 (.mv (.const (.bool false)))])
 (.seq (.region [o 6 (.mv (t 0)),
   o 7 (.mv (t 1)),
   o 8 (.call 134 [(t 6), (t 7)]),
   o 9 (.extract 0 (t 8)),
   o 10 (.extract 1 (t 8)),
   o 4 (.mv (t 9)),
   o 5 (.mv (t 10))])
 .ret))⟩
theorem c97 : compFn Go.Proofs.Tryz.prog Go.Proofs.Tryz.f97 = some a97 := by kernel_rfl
def a98 : AFunc := ⟨26, [.tmp 6, .tmp 7],
 (.seq (.region [o 6 (.mv (.const (.int .u64 0))),
   o 7 (.mv (.const .nilIface))])
 (.seq (.region [o 11 (.mv (t 0)),
   o 12 (.mv (t 1)),
   o 13 (.mv (t 2)),
   o 14 (.call 135 [(t 11), (t 12), (t 13)]),
   o 10 (.mv (t 14)),
   o 15 (.extract 0 (t 10)),
   o 16 (.extract 1 (t 10)),
   o 8 (.mv (t 15)),
   o 9 (.mv (t 16))])
 (.seq (.seq (.region [o 17 (.mv (t 9)),
   o 18 (.eqNil .iface true (t 17) (.const .nilIface))])
 (.cond (t 18)
  (.seq (.region [o 19 (.mv (t 8)),
    o 20 (.mv (t 0)),
    o 21 (.mv (t 1)),
    o 22 (.mv (t 2)),
    o 23 (.mv (t 9)),
    o 24 (.call 136 [(.const (.string ⟨#[80, 97, 114, 115, 101, 85, 105, 110, 116]⟩)), (t 20), (t 21), (t 22), (t 23)]),
    o 6 (.mv (t 19)),
    o 7 (.mv (t 24))])
  .ret)
  .skip))
 (.seq (.region [o 25 (.mv (t 8)),
   o 6 (.mv (t 25)),
   o 7 (.mv (.const .nilIface))])
 .ret))))⟩
theorem c98 : compFn Go.Proofs.Tryz.prog Go.Proofs.Tryz.f98 = some a98 := by kernel_rfl
def a99 : AFunc := ⟨6, [.tmp 2],
 (.seq (.region [o 2 (.mv (.const (.string ⟨#[]⟩)))])
 (.seq (.region [o 3 (.mv (t 0)),
   o 4 (.call 137 [(t 3)]),
   o 5 (.bin .add (.const (.string ⟨#[99]⟩)) (t 4)),
   o 2 (.mv (t 5))])
 .ret))⟩
theorem c99 : compFn Go.Proofs.Tryz.prog Go.Proofs.Tryz.f99 = some a99 := by kernel_rfl
def a103 : AFunc := ⟨47, [.tmp 4],
 (.seq (.region [o 4 (.mv (.const (.bool false)))])
 (.seq (.seq (.draw [o 6 (.mv (t 1)),
   ⟨(some 7), none, 1, .lenSl (t 6)⟩,
   ⟨(some 8), none, 3, .bin .lss (t 7) (.const (.int .i64 1))⟩,
   ⟨(some 9), none, 7, .mv (t 8)⟩,
   ⟨(some 10), (some (9, false)), 15, .mv (t 1)⟩,
   ⟨(some 11), (some (9, false)), 31, .lenSl (t 10)⟩,
   ⟨(some 12), (some (9, false)), 63, .bin .gtr (t 11) (.const (.int .i64 3))⟩,
   ⟨(some 13), none, 127, .pick (t 9) (.const (.bool true)) (t 12)⟩,
   ⟨(some 14), none, 255, .mv (t 13)⟩,
   ⟨(some 15), (some (14, false)), 511, .mv (t 1)⟩,
   ⟨(some 16), (some (14, false)), 1023, .indexSl 1 (t 15) (.const (.int .i64 0))⟩,
   ⟨(some 17), (some (14, false)), 2047, .load false 1 (t 16)⟩,
   ⟨(some 18), (some (14, false)), 511, .mv (t 0)⟩,
   ⟨(some 19), (some (14, false)), 4607, .nilCheck (t 18)⟩,
   ⟨(some 20), (some (14, false)), 12799, .fieldAddr 1 (t 19)⟩,
   ⟨(some 21), (some (14, false)), 29183, .load false 1 (t 20)⟩,
   ⟨(some 22), (some (14, false)), 65535, .bin .neq (t 17) (t 21)⟩,
   ⟨(some 23), none, 131071, .pick (t 14) (.const (.bool true)) (t 22)⟩,
   ⟨(some 24), none, 262143, .mv (t 23)⟩,
   ⟨(some 25), (some (24, false)), 524287, .mv (t 1)⟩,
   ⟨(some 26), (some (24, false)), 1048575, .call 144 [(t 25)]⟩,
   ⟨(some 27), (some (24, false)), 2097151, .lenSl (t 26)⟩,
   ⟨(some 28), (some (24, false)), 524287, .mv (t 1)⟩,
   ⟨(some 29), (some (24, false)), 4718591, .lenSl (t 28)⟩,
   ⟨(some 30), (some (24, false)), 16777215, .bin .neq (t 27) (t 29)⟩,
   ⟨(some 31), none, 33554431, .pick (t 24) (.const (.bool true)) (t 30)⟩])
 (.cond (t 31)
  (.seq (.region [o 4 (.mv (.const (.bool false)))])
  .ret)
  .skip))
 (.seq (.region [o 32 (.mv (t 1)),
   o 33 (.call 144 [(t 32)]),
   o 5 (.mv (t 33))])
 (.seq (.region [o 34 (.mv (t 5)),
   o 35 (.indexSl 1 (t 34) (.const (.int .i64 0))),
   o 36 (.load false 1 (t 35)),
   o 37 (.bin .geq (t 36) (.const (.int .i64 0))),
   o 38 (.mv (t 37)),
   ⟨(some 39), (some (38, true)), 0, .mv (t 5)⟩,
   ⟨(some 40), (some (38, true)), 0, .mv (t 5)⟩,
   ⟨(some 41), (some (38, true)), 0, .lenSl (t 40)⟩,
   ⟨(some 42), (some (38, true)), 0, .bin .sub (t 41) (.const (.int .i64 1))⟩,
   ⟨(some 43), (some (38, true)), 0, .indexSl 1 (t 39) (t 42)⟩,
   ⟨(some 44), (some (38, true)), 0, .load false 1 (t 43)⟩,
   ⟨(some 45), (some (38, true)), 0, .bin .leq (t 44) (.const (.int .i64 2147483647))⟩,
   o 46 (.pick (t 38) (t 45) (.const (.bool false))),
   o 4 (.mv (t 46))])
 .ret))))⟩
theorem c103 : compFn Go.Proofs.Tryz.prog Go.Proofs.Tryz.f103 = some a103 := by kernel_rfl
def a104 : AFunc := ⟨32, [.tmp 6],
 (.seq (.region [o 6 (.mv (.const (.int .i64 0)))])
 (.seq (.seq (.region [o 10 (.mv (t 0)),
   o 11 (.nilCheck (t 10)),
   o 12 (.fieldAddr 1 (t 11)),
   o 13 (.load false 1 (t 12)),
   o 14 (.mv (t 1)),
   o 15 (.lookup .int (.agg #[(.int .i64 0), (.slice none 0 0)]) true (t 13) (t 14)),
   o 9 (.mv (t 15)),
   o 16 (.extract 0 (t 9)),
   o 17 (.extract 1 (t 9)),
   o 7 (.alloc [(.int .i64 0), (.slice none 0 0)]),
   ⟨none, none, 0, .store 2 (t 7) (t 16)⟩,
   o 8 (.mv (t 17))])
 (.seq (.region [o 18 (.mv (t 8)),
   o 19 (.mv (t 18)),
   ⟨(some 20), (some (19, true)), 0, .mv (t 2)⟩,
   ⟨(some 21), (some (19, true)), 0, .bin .leq (.const (.int .i64 1)) (t 20)⟩,
   o 22 (.pick (t 19) (t 21) (.const (.bool false))),
   o 23 (.mv (t 22)),
   ⟨(some 24), (some (23, true)), 0, .mv (t 2)⟩,
   ⟨(some 25), (some (23, true)), 0, .bin .leq (t 24) (.const (.int .i64 1073741824))⟩,
   o 26 (.pick (t 23) (t 25) (.const (.bool false)))])
 (.cond (t 26)
  (.seq (.region [o 6 (.mv (.const (.int .i64 181)))])
  .ret)
  .skip)))
 (.seq (.region [o 27 (.mv (t 0)),
   o 28 (.mv (t 1)),
   o 29 (.mv (t 2)),
   o 30 (.build [(.int .i64 0), (.slice none 0 0)] [(0, 1, (t 29))]),
   o 31 (.call 145 [(t 27), (t 28), (t 30)]),
   o 6 (.mv (t 31))])
 .ret)))⟩
theorem c104 : compFn Go.Proofs.Tryz.prog Go.Proofs.Tryz.f104 = some a104 := by kernel_rfl
def a106 : AFunc := ⟨25, [.tmp 6],
 (.seq (.region [o 6 (.mv (.const (.pointer none)))])
 (.seq (.seq (.region [o 8 (.mv (t 0)),
   o 9 (.nilCheck (t 8)),
   o 10 (.fieldAddr 20 (t 9)),
   o 11 (.load false 1 (t 10)),
   o 12 (.mv (t 1)),
   o 13 (.lookup .int (.pointer none) false (t 11) (t 12)),
   o 7 (.mv (t 13))])
 (.seq (.region [o 14 (.mv (t 7)),
   o 15 (.eqNil .ptr true (t 14) (.const (.pointer none))),
   o 16 (.mv (t 15)),
   ⟨(some 17), (some (16, true)), 0, .mv (t 7)⟩,
   ⟨(some 18), (some (16, true)), 0, .nilCheck (t 17)⟩,
   ⟨(some 19), (some (16, true)), 0, .fieldAddr 1 (t 18)⟩,
   ⟨(some 20), (some (16, true)), 0, .load false 1 (t 19)⟩,
   ⟨(some 21), (some (16, true)), 0, .mv (t 2)⟩,
   ⟨(some 22), (some (16, true)), 0, .bin .eql (t 20) (t 21)⟩,
   o 23 (.pick (t 16) (t 22) (.const (.bool false)))])
 (.cond (t 23)
  (.seq (.region [o 24 (.mv (t 7)),
    o 6 (.mv (t 24))])
  .ret)
  .skip)))
 (.seq (.region [o 6 (.mv (.const (.pointer none)))])
 .ret)))⟩
theorem c106 : compFn Go.Proofs.Tryz.prog Go.Proofs.Tryz.f106 = some a106 := by kernel_rfl
def a107 : AFunc := ⟨52, [.tmp 8],
 (.seq (.region [o 8 (.mv (.const (.pointer none)))])
 (.seq (.region [o 12 (.mv (t 0)),
   o 13 (.mv (t 1)),
   o 14 (.call 74 [(t 12), (t 13)])])
 (.seq (.region [o 15 (.mv (t 1)),
   o 16 (.mv (t 2)),
   o 17 (.build [(.int .i64 0), (.int .i64 0), (.slice none 0 0), (.int .i64 0), (.bool false), (.slice none 0 0)] [(0, 1, (t 15)), (1, 1, (t 16))]),
   o 18 (.box (t 17)),
   o 9 (.mv (t 18))])
 (.seq (.region [o 19 (.mv (t 9)),
   o 20 (.mv (t 0)),
   o 21 (.mv (t 9)),
   o 22 (.call 88 [(t 20), (t 21)]),
   o 23 (.lenSl (t 22)),
   o 24 (.nilCheck (t 19)),
   o 25 (.fieldAddr 3 (t 24)),
   ⟨none, none, 0, .store 1 (t 25) (t 23)⟩])
 (.seq (.seq (.region [o 26 (.mv (t 3)),
   o 27 (.sliceSl 1 (t 26) (some (.const (.int .i64 1))) none none),
   o 28 (.lenSl (t 27)),
   o 29 (.mv (.const (.int .i64 0)))])
 (.block 0
  (.loop
   (.seq (.region [o 30 (.bin .lss (t 29) (t 28))])
   (.seq (.cond (t 30)
    .skip
    (.exit 0))
   (.seq (.block 1
    (.seq (.region [o 31 (.indexSl 1 (t 27) (t 29)),
      o 32 (.load false 1 (t 31)),
      o 11 (.mv (t 32))])
    (.region [o 33 (.mv (t 9)),
      o 34 (.mv (t 9)),
      o 35 (.nilCheck (t 34)),
      o 36 (.fieldAddr 2 (t 35)),
      o 37 (.load false 1 (t 36)),
      o 38 (.mv (t 11)),
      o 39 (.build [(.int .i64 0), (.int .i64 0)] [(0, 1, (t 38)), (1, 1, (.const (.int .i64 (-1))))]),
      o 40 (.buildSlice 2 1 [(.int .i64 0), (.int .i64 0)] [(0, 2, (t 39))]),
      o 41 (.append 2 16 [(.int .i64 0), (.int .i64 0)] (t 37) (t 40)),
      o 42 (.nilCheck (t 33)),
      o 43 (.fieldAddr 2 (t 42)),
      ⟨none, none, 0, .store 1 (t 43) (t 41)⟩])))
   (.region [o 44 (.bin .add (t 29) (.const (.int .i64 1))),
     o 29 (.mv (t 44))])))))))
 (.seq (.region [o 45 (.mv (t 0)),
   o 46 (.nilCheck (t 45)),
   o 47 (.fieldAddr 20 (t 46)),
   o 48 (.load false 1 (t 47)),
   o 49 (.mv (t 1)),
   o 50 (.mv (t 9)),
   ⟨none, none, 0, .mapSet .int (t 48) (t 49) (t 50)⟩])
 (.seq (.region [o 51 (.mv (t 9)),
   o 8 (.mv (t 51))])
 .ret)))))))⟩
theorem c107 : compFn Go.Proofs.Tryz.prog Go.Proofs.Tryz.f107 = some a107 := by kernel_rfl
def a108 : AFunc := ⟨8, [],
 (.region [o 4 (.load false 1 (t 1)),
   o 5 (.load false 1 (t 2)),
   o 6 (.mv (t 0)),
   o 7 (.call 52 [(t 4), (t 5), (t 6)])])⟩
theorem c108 : compFn Go.Proofs.Tryz.prog Go.Proofs.Tryz.f108 = some a108 := by kernel_rfl
def a109 : AFunc := ⟨23, [.tmp 6],
 (.seq (.region [o 6 (.mv (.const (.bool false)))])
 (.seq (.region [o 11 (.mv (t 0)),
   o 12 (.mv (t 1)),
   o 13 (.call 23 [(t 11), (t 12)]),
   o 10 (.mv (t 13)),
   o 14 (.extract 0 (t 10)),
   o 15 (.extract 1 (t 10)),
   o 16 (.extract 2 (t 10)),
   o 7 (.mv (t 14)),
   o 8 (.mv (t 15)),
   o 9 (.mv (t 16))])
 (.seq (.region [o 17 (.mv (t 9)),
   o 18 (.mv (t 17)),
   ⟨(some 19), (some (18, true)), 0, .mv (t 7)⟩,
   ⟨(some 20), (some (18, true)), 0, .mv (t 2)⟩,
   ⟨(some 21), (some (18, true)), 0, .bin .eql (t 19) (t 20)⟩,
   o 22 (.pick (t 18) (t 21) (.const (.bool false))),
   o 6 (.mv (t 22))])
 .ret)))⟩
theorem c109 : compFn Go.Proofs.Tryz.prog Go.Proofs.Tryz.f109 = some a109 := by kernel_rfl
def a111 : AFunc := ⟨36, [],
 (.seq (.seq (.region [o 8 (.mv (t 0)),
   o 9 (.nilCheck (t 8)),
   o 10 (.fieldAddr 0 (t 9)),
   o 11 (.load false 1 (t 10)),
   o 12 (.eqNil .map false (t 11) (.const (.map none)))])
 (.cond (t 12)
  (.region [o 13 (.mv (t 0)),
    o 14 (.mkMap),
    o 15 (.nilCheck (t 13)),
    o 16 (.fieldAddr 0 (t 15)),
    ⟨none, none, 0, .store 1 (t 16) (t 14)⟩])
  .skip))
 (.seq (.seq (.region [o 18 (.mv (t 0)),
   o 19 (.nilCheck (t 18)),
   o 20 (.fieldAddr 0 (t 19)),
   o 21 (.load false 1 (t 20)),
   o 22 (.mv (t 1)),
   o 23 (.lookup .int (.int .i64 0) true (t 21) (t 22)),
   o 17 (.mv (t 23)),
   o 24 (.extract 0 (t 17)),
   o 25 (.extract 1 (t 17)),
   o 6 (.mv (t 24)),
   o 7 (.mv (t 25))])
 (.seq (.region [o 26 (.mv (t 7))])
 (.cond (t 26)
  (.region [o 27 (.mv (t 2)),
    o 28 (.mv (t 6)),
    o 29 (.max [(t 27), (t 28)]),
    o 2 (.mv (t 29))])
  .skip)))
 (.region [o 30 (.mv (t 0)),
   o 31 (.nilCheck (t 30)),
   o 32 (.fieldAddr 0 (t 31)),
   o 33 (.load false 1 (t 32)),
   o 34 (.mv (t 1)),
   o 35 (.mv (t 2)),
   ⟨none, none, 0, .mapSet .int (t 33) (t 34) (t 35)⟩])))⟩
theorem c111 : compFn Go.Proofs.Tryz.prog Go.Proofs.Tryz.f111 = some a111 := by kernel_rfl
def a112 : AFunc := ⟨38, [],
 (.seq (.region [o 2 (.box (t 0))])
 (.seq (.region [o 5 (.load false 1 (t 2)),
   o 6 (.mv (t 1)),
   o 7 (.call 82 [(t 5), (t 6)]),
   o 4 (.alloc [(.int .i64 0)]),
   ⟨none, none, 0, .store 1 (t 4) (t 7)⟩])
 (.seq (.seq (.draw [o 8 (.load false 1 (t 4)),
   o 9 (.mv (t 1)),
   ⟨(some 10), none, 2, .nilCheck (t 9)⟩,
   ⟨(some 11), none, 6, .fieldAddr 3 (t 10)⟩,
   ⟨(some 12), none, 14, .load false 1 (t 11)⟩,
   ⟨(some 13), none, 31, .bin .lss (t 8) (t 12)⟩,
   ⟨(some 14), none, 63, .mv (t 13)⟩,
   ⟨(some 15), (some (14, false)), 127, .load false 1 (t 2)⟩,
   ⟨(some 16), (some (14, false)), 255, .nilCheck (t 15)⟩,
   ⟨(some 17), (some (14, false)), 511, .fieldAddr 19 (t 16)⟩,
   ⟨(some 18), (some (14, false)), 127, .mv (t 1)⟩,
   ⟨(some 19), (some (14, false)), 1151, .nilCheck (t 18)⟩,
   ⟨(some 20), (some (14, false)), 3199, .fieldAddr 0 (t 19)⟩,
   ⟨(some 21), (some (14, false)), 7295, .load false 1 (t 20)⟩,
   ⟨(some 22), (some (14, false)), 127, .load false 1 (t 2)⟩,
   ⟨(some 23), (some (14, false)), 16511, .nilCheck (t 22)⟩,
   ⟨(some 24), (some (14, false)), 49279, .fieldAddr 18 (t 23)⟩,
   ⟨(some 25), (some (14, false)), 114815, .load false 1 (t 24)⟩,
   ⟨(some 26), (some (14, false)), 262143, .call 81 [(t 17), (t 21), (t 25)]⟩,
   ⟨(some 27), (some (14, false)), 524287, .un .not (t 26)⟩,
   ⟨(some 28), none, 1048575, .pick (t 14) (.const (.bool true)) (t 27)⟩])
 (.cond (t 28)
  .ret
  .skip))
 (.region [o 29 (.mv (t 1)),
   o 30 (.mv (t 1)),
   o 31 (.nilCheck (t 30)),
   o 32 (.fieldAddr 5 (t 31)),
   o 33 (.load false 1 (t 32)),
   o 34 (.mkFunc (.func 147) [] [(t 4), (t 2)]),
   o 35 (.call 146 [(t 33), (t 34)]),
   o 36 (.nilCheck (t 29)),
   o 37 (.fieldAddr 5 (t 36)),
   ⟨none, none, 0, .store 1 (t 37) (t 35)⟩]))))⟩
theorem c112 : compFn Go.Proofs.Tryz.prog Go.Proofs.Tryz.f112 = some a112 := by kernel_rfl
def a115 : AFunc := ⟨9, [],
 (.region [o 4 (.mv (t 0)),
   o 5 (.nilCheck (t 4)),
   o 6 (.fieldAddr 0 (t 5)),
   o 7 (.load false 1 (t 6)),
   o 8 (.mv (t 1)),
   ⟨none, none, 0, .delete .int (t 7) (t 8)⟩])⟩
theorem c115 : compFn Go.Proofs.Tryz.prog Go.Proofs.Tryz.f115 = some a115 := by kernel_rfl
def a116 : AFunc := ⟨63, [],
 (.seq (.seq (.draw [o 6 (.mv (t 0)),
   ⟨(some 7), none, 1, .nilCheck (t 6)⟩,
   ⟨(some 8), none, 3, .fieldAddr 0 (t 7)⟩,
   ⟨(some 9), none, 7, .load false 1 (t 8)⟩,
   o 10 (.fieldAddr 3 (t 1)),
   ⟨(some 11), none, 16, .load false 1 (t 10)⟩,
   ⟨(some 12), none, 63, .bin .neq (t 9) (t 11)⟩,
   ⟨(some 13), none, 127, .mv (t 12)⟩,
   ⟨(some 14), (some (13, false)), 255, .load false 1 (t 2)⟩,
   ⟨(some 15), (some (13, false)), 255, .mv (t 0)⟩,
   ⟨(some 16), (some (13, false)), 767, .nilCheck (t 15)⟩,
   ⟨(some 17), (some (13, false)), 1791, .fieldAddr 0 (t 16)⟩,
   ⟨(some 18), (some (13, false)), 3839, .load false 1 (t 17)⟩,
   ⟨(some 19), (some (13, false)), 8191, .call 117 [(t 14), (t 18)]⟩,
   ⟨(some 20), (some (13, false)), 255, .fieldAddr 1 (t 1)⟩,
   ⟨(some 21), (some (13, false)), 16639, .load false 1 (t 20)⟩,
   ⟨(some 22), (some (13, false)), 65535, .bin .neq (t 19) (t 21)⟩,
   ⟨(some 23), none, 131071, .pick (t 13) (.const (.bool true)) (t 22)⟩,
   ⟨(some 24), none, 262143, .mv (t 23)⟩,
   ⟨(some 25), (some (24, false)), 524287, .fieldAddr 6 (t 1)⟩,
   ⟨(some 26), (some (24, false)), 1048575, .load false 1 (t 25)⟩,
   ⟨(some 27), (some (24, false)), 2097151, .bin .lss (t 26) (.const (.int .i64 0))⟩,
   ⟨(some 28), none, 4194303, .pick (t 24) (.const (.bool true)) (t 27)⟩,
   ⟨(some 29), none, 8388607, .mv (t 28)⟩,
   ⟨(some 30), (some (29, false)), 16777215, .fieldAddr 6 (t 1)⟩,
   ⟨(some 31), (some (29, false)), 33554431, .load false 1 (t 30)⟩,
   ⟨(some 32), (some (29, false)), 16777215, .load false 1 (t 3)⟩,
   ⟨(some 33), (some (29, false)), 83886079, .lenSl (t 32)⟩,
   ⟨(some 34), (some (29, false)), 268435455, .bin .gtr (t 31) (t 33)⟩,
   ⟨(some 35), none, 536870911, .pick (t 29) (.const (.bool true)) (t 34)⟩])
 (.cond (t 35)
  .ret
  .skip))
 (.seq (.seq (.draw [o 36 (.mv (t 0)),
   o 37 (.mv (t 0)),
   ⟨(some 38), none, 2, .nilCheck (t 37)⟩,
   ⟨(some 39), none, 6, .fieldAddr 1 (t 38)⟩,
   ⟨(some 40), none, 14, .load false 1 (t 39)⟩,
   o 41 (.fieldAddr 6 (t 1)),
   ⟨(some 42), none, 32, .load false 1 (t 41)⟩,
   ⟨(some 43), none, 126, .max [(t 40), (t 42)]⟩,
   ⟨(some 44), none, 255, .nilCheck (t 36)⟩,
   ⟨(some 45), none, 511, .fieldAddr 1 (t 44)⟩,
   ⟨none, none, 1023, .store 1 (t 45) (t 43)⟩])
 (.seq (.draw [o 46 (.mv (t 0)),
   ⟨(some 47), none, 1, .nilCheck (t 46)⟩,
   ⟨(some 48), none, 3, .fieldAddr 1 (t 47)⟩,
   ⟨(some 49), none, 7, .load false 1 (t 48)⟩,
   o 50 (.load false 1 (t 3)),
   ⟨(some 51), none, 16, .lenSl (t 50)⟩,
   ⟨(some 52), none, 63, .bin .lss (t 49) (t 51)⟩])
 (.cond (t 52)
  (.region [o 53 (.load false 1 (t 2)),
    o 54 (.load false 1 (t 4)),
    o 55 (.mv (t 0)),
    o 56 (.call 53 [(t 53), (t 54), (t 55)])])
  .skip)))
 (.seq (.region [o 57 (.load false 1 (t 2)),
   o 58 (.load false 1 (t 4)),
   o 59 (.call 54 [(t 57), (t 58)])])
 (.region [o 60 (.load false 1 (t 2)),
   o 61 (.load false 1 (t 4)),
   o 62 (.call 112 [(t 60), (t 61)])]))))⟩
theorem c116 : compFn Go.Proofs.Tryz.prog Go.Proofs.Tryz.f116 = some a116 := by kernel_rfl
def a117 : AFunc := ⟨18, [.tmp 4],
 (.seq (.region [o 4 (.mv (.const (.int .i64 0)))])
 (.seq (.draw [o 5 (.mv (t 0)),
   ⟨(some 6), none, 1, .nilCheck (t 5)⟩,
   ⟨(some 7), none, 3, .fieldAddr 2 (t 6)⟩,
   ⟨(some 8), none, 7, .fieldAddr 0 (t 7)⟩,
   ⟨(some 9), none, 15, .load false 1 (t 8)⟩,
   o 10 (.mv (t 1)),
   o 11 (.mv (t 0)),
   ⟨(some 12), none, 64, .nilCheck (t 11)⟩,
   ⟨(some 13), none, 192, .fieldAddr 2 (t 12)⟩,
   ⟨(some 14), none, 448, .fieldAddr 1 (t 13)⟩,
   ⟨(some 15), none, 960, .load false 1 (t 14)⟩,
   ⟨(some 16), none, 2016, .bin .rem (t 10) (t 15)⟩,
   ⟨(some 17), none, 4095, .bin .add (t 9) (t 16)⟩,
   ⟨(some 4), none, 8191, .mv (t 17)⟩])
 .ret))⟩
theorem c117 : compFn Go.Proofs.Tryz.prog Go.Proofs.Tryz.f117 = some a117 := by kernel_rfl
def a118 : AFunc := ⟨32, [.tmp 2, .tmp 3],
 (.seq (.region [o 2 (.mv (.const (.slice none 0 0))),
   o 3 (.mv (.const (.int .i64 0)))])
 (.seq (.region [o 8 (.mv (t 0)),
   o 9 (.call 25 [(t 8)]),
   o 4 (.mv (t 9))])
 (.seq (.region [o 5 (.mv (.const (.slice none 0 0)))])
 (.seq (.seq (.region [o 10 (.mv (t 4)),
   o 11 (.call 26 [(t 10), (.const (.int .i64 17))]),
   o 12 (.mv (.const (.int .i64 0)))])
 (.block 0
  (.loop
   (.seq (.region [o 13 (.bin .lss (t 12) (t 11))])
   (.seq (.cond (t 13)
    .skip
    (.exit 0))
   (.seq (.block 1
    (.seq (.region [o 15 (.mv (t 4)),
      o 16 (.call 150 [(t 15), (.const (.int .i64 1000))]),
      o 17 (.call 121 [(t 16)]),
      o 14 (.mv (t 17)),
      o 18 (.extract 0 (t 14)),
      o 19 (.extract 1 (t 14)),
      o 6 (.alloc [(.int .i64 0), (.int .i64 0), (.string ⟨#[]⟩)]),
      ⟨none, none, 0, .store 3 (t 6) (t 18)⟩,
      o 7 (.mv (t 19))])
    (.seq (.seq (.region [o 20 (.mv (t 7)),
      o 21 (.bin .neq (t 20) (.const (.int .i64 0)))])
    (.cond (t 21)
     (.seq (.region [o 22 (.mv (t 7)),
       o 2 (.mv (.const (.slice none 0 0))),
       o 3 (.mv (t 22))])
     .ret)
     .skip))
    (.region [o 23 (.mv (t 5)),
      o 24 (.load true 3 (t 6)),
      o 25 (.buildSlice 3 1 [(.int .i64 0), (.int .i64 0), (.string ⟨#[]⟩)] [(0, 3, (t 24))]),
      o 26 (.append 3 32 [(.int .i64 0), (.int .i64 0), (.string ⟨#[]⟩)] (t 23) (t 25)),
      o 5 (.mv (t 26))]))))
   (.region [o 27 (.bin .add (t 12) (.const (.int .i64 1))),
     o 12 (.mv (t 27))])))))))
 (.seq (.seq (.region [o 28 (.mv (t 4)),
   o 29 (.call 28 [(t 28)]),
   o 30 (.bin .neq (t 29) (.const (.int .i64 0)))])
 (.cond (t 30)
  (.seq (.region [o 2 (.mv (.const (.slice none 0 0))),
    o 3 (.mv (.const (.int .i64 170)))])
  .ret)
  .skip))
 (.seq (.region [o 31 (.mv (t 5)),
   o 2 (.mv (t 31)),
   o 3 (.mv (.const (.int .i64 0)))])
 .ret))))))⟩
theorem c118 : compFn Go.Proofs.Tryz.prog Go.Proofs.Tryz.f118 = some a118 := by kernel_rfl
def a119 : AFunc := ⟨44, [.tmp 8],
 (.seq (.region [o 8 (.mv (.const (.int .i64 0)))])
 (.seq (.seq (.region [o 14 (.mv (t 2)),
   o 15 (.mv (t 3)),
   o 16 (.call 151 [(t 14), (t 15)]),
   o 13 (.mv (t 16)),
   o 17 (.extract 0 (t 13)),
   o 18 (.extract 1 (t 13)),
   o 9 (.mv (t 17)),
   o 10 (.mv (t 18))])
 (.seq (.region [o 19 (.mv (t 10)),
   o 20 (.bin .neq (t 19) (.const (.int .i64 0)))])
 (.cond (t 20)
  (.seq (.region [o 8 (.mv (.const (.int .i64 1)))])
  .ret)
  .skip)))
 (.seq (.seq (.region [o 22 (.mv (t 0)),
   o 23 (.nilCheck (t 22)),
   o 24 (.fieldAddr 1 (t 23)),
   o 25 (.load false 1 (t 24)),
   o 26 (.mv (t 1)),
   o 27 (.lookup .int (.agg #[(.int .i64 0), (.slice none 0 0)]) true (t 25) (t 26)),
   o 21 (.mv (t 27)),
   o 28 (.extract 0 (t 21)),
   o 29 (.extract 1 (t 21)),
   o 11 (.alloc [(.int .i64 0), (.slice none 0 0)]),
   ⟨none, none, 0, .store 2 (t 11) (t 28)⟩,
   o 12 (.mv (t 29))])
 (.seq (.region [o 30 (.mv (t 12)),
   o 31 (.mv (t 30)),
   ⟨(some 32), (some (31, true)), 0, .fieldAddr 0 (t 11)⟩,
   ⟨(some 33), (some (31, true)), 0, .load false 1 (t 32)⟩,
   ⟨(some 34), (some (31, true)), 0, .mv (t 2)⟩,
   ⟨(some 35), (some (31, true)), 0, .bin .geq (t 33) (t 34)⟩,
   o 36 (.pick (t 31) (t 35) (.const (.bool false)))])
 (.cond (t 36)
  (.seq (.region [o 8 (.mv (.const (.int .i64 181)))])
  .ret)
  .skip)))
 (.seq (.region [o 37 (.mv (t 0)),
   o 38 (.mv (t 1)),
   o 39 (.mv (t 2)),
   o 40 (.mv (t 3)),
   o 41 (.call 93 [(t 40)]),
   o 42 (.build [(.int .i64 0), (.slice none 0 0)] [(0, 1, (t 39)), (1, 1, (t 41))]),
   o 43 (.call 145 [(t 37), (t 38), (t 42)]),
   o 8 (.mv (t 43))])
 .ret))))⟩
theorem c119 : compFn Go.Proofs.Tryz.prog Go.Proofs.Tryz.f119 = some a119 := by kernel_rfl
def a120 : AFunc := ⟨129, [.tmp 10, .tmp 11],
 (.seq (.region [o 10 (.mv (.const (.int .i64 0))),
   o 11 (.mv (.const (.int .i64 0)))])
 (.seq (.region [o 20 (.mv (t 0)),
   o 21 (.nilCheck (t 20)),
   o 22 (.fieldAddr 1 (t 21)),
   o 23 (.load false 1 (t 22)),
   o 24 (.mv (t 1)),
   o 25 (.lookup .int (.agg #[(.int .i64 0), (.slice none 0 0)]) true (t 23) (t 24)),
   o 19 (.mv (t 25)),
   o 26 (.extract 0 (t 19)),
   o 27 (.extract 1 (t 19)),
   o 12 (.alloc [(.int .i64 0), (.slice none 0 0)]),
   ⟨none, none, 0, .store 2 (t 12) (t 26)⟩,
   o 13 (.mv (t 27))])
 (.seq (.region [o 28 (.fieldAddr 1 (t 12)),
   o 29 (.load false 1 (t 28)),
   o 30 (.lenSl (t 29)),
   o 14 (.mv (t 30))])
 (.seq (.region [o 32 (.mv (t 4)),
   o 33 (.call 152 [(t 32)]),
   o 31 (.mv (t 33)),
   o 34 (.extract 0 (t 31)),
   o 35 (.extract 1 (t 31)),
   o 15 (.mv (t 34)),
   o 16 (.mv (t 35))])
 (.seq (.block 0
  (.seq (.region [o 37 (.mv (t 13)),
    o 38 (.un .not (t 37)),
    o 36 (.mv (t 38))])
  (.cond (t 36)
   (.seq (.region [o 10 (.mv (.const (.int .i64 0))),
     o 11 (.mv (.const (.int .i64 180)))])
   .ret)
   (.seq (.region [o 40 (.fieldAddr 0 (t 12)),
     o 41 (.load false 1 (t 40)),
     o 42 (.mv (t 2)),
     o 43 (.bin .neq (t 41) (t 42)),
     o 39 (.mv (t 43))])
   (.cond (t 39)
    (.seq (.region [o 44 (.mv (t 14)),
      o 10 (.mv (t 44)),
      o 11 (.mv (.const (.int .i64 181)))])
    .ret)
    (.seq (.seq (.region [o 46 (.mv (t 16)),
      o 47 (.bin .neq (t 46) (.const (.int .i64 0))),
      o 45 (.mv (t 47))])
    (.cond (t 45)
     .skip
     (.seq (.region [o 48 (.mv (t 3)),
       o 49 (.bin .lss (t 48) (.const (.int .i64 0))),
       o 45 (.mv (t 49))])
     (.cond (t 45)
      .skip
      (.region [o 50 (.mv (t 3)),
        o 51 (.mv (t 4)),
        o 52 (.lenSl (t 51)),
        o 53 (.bin .sub (.const (.int .i64 16)) (t 52)),
        o 54 (.bin .gtr (t 50) (t 53)),
        o 45 (.mv (t 54))])))))
    (.cond (t 45)
     (.seq (.region [o 55 (.mv (t 14)),
       o 10 (.mv (t 55)),
       o 11 (.mv (.const (.int .i64 1)))])
     .ret)
     (.seq (.region [o 57 (.mv (t 3)),
       o 58 (.mv (t 14)),
       o 59 (.bin .gtr (t 57) (t 58)),
       o 56 (.mv (t 59))])
     (.cond (t 56)
      (.seq (.region [o 60 (.mv (t 14)),
        o 10 (.mv (t 60)),
        o 11 (.mv (.const (.int .i64 182)))])
      .ret)
      .skip)))))))))
 (.seq (.region [o 61 (.mv (t 14)),
   o 62 (.mv (t 3)),
   o 63 (.bin .sub (t 61) (t 62)),
   o 64 (.mv (t 4)),
   o 65 (.lenSl (t 64)),
   o 66 (.min [(t 63), (t 65)]),
   o 17 (.mv (t 66))])
 (.seq (.block 1
  (.seq (.region [o 68 (.fieldAddr 1 (t 12)),
    o 69 (.load false 1 (t 68)),
    o 70 (.mv (t 3)),
    o 71 (.sliceSl 3 (t 69) (some (t 70)) none none),
    o 72 (.mv (t 4)),
    o 73 (.call 153 [(t 71), (t 72)]),
    o 74 (.mv (t 17)),
    o 75 (.bin .lss (t 73) (t 74)),
    o 67 (.mv (t 75))])
  (.cond (t 67)
   (.seq (.region [o 76 (.mv (t 14)),
     o 10 (.mv (t 76)),
     o 11 (.mv (.const (.int .i64 182)))])
   .ret)
   (.seq (.region [o 78 (.mv (t 17)),
     o 79 (.mv (t 4)),
     o 80 (.lenSl (t 79)),
     o 81 (.bin .eql (t 78) (t 80)),
     o 77 (.mv (t 81))])
   (.cond (t 77)
    (.seq (.region [o 82 (.mv (t 14)),
      o 10 (.mv (t 82)),
      o 11 (.mv (.const (.int .i64 0)))])
    .ret)
    .skip)))))
 (.seq (.region [o 84 (.mv (t 4)),
   o 85 (.mv (t 17)),
   o 86 (.sliceSl 3 (t 84) (some (t 85)) none none),
   o 87 (.call 152 [(t 86)]),
   o 83 (.mv (t 87)),
   o 88 (.extract 0 (t 83)),
   o 89 (.extract 1 (t 83)),
   o 15 (.mv (t 88))])
 (.seq (.draw [o 90 (.mv (t 0)),
   ⟨(some 91), none, 1, .nilCheck (t 90)⟩,
   ⟨(some 92), none, 3, .fieldAddr 0 (t 91)⟩,
   ⟨(some 93), none, 7, .load false 1 (t 92)⟩,
   o 94 (.mv (t 1)),
   ⟨(some 95), none, 16, .call 99 [(t 94)]⟩,
   o 96 (.mv (t 15)),
   ⟨(some 97), none, 127, .call 154 [(t 93), (t 95), (t 96)]⟩,
   ⟨(some 18), none, 255, .mv (t 97)⟩])
 (.seq (.seq (.region [o 98 (.mv (t 18)),
   o 99 (.bin .eql (t 98) (.const (.int .i64 0)))])
 (.cond (t 99)
  (.draw [o 100 (.mv (t 0)),
    ⟨(some 101), none, 1, .nilCheck (t 100)⟩,
    ⟨(some 102), none, 3, .fieldAddr 0 (t 101)⟩,
    ⟨(some 103), none, 7, .load false 1 (t 102)⟩,
    o 104 (.mv (t 1)),
    ⟨(some 105), none, 16, .call 99 [(t 104)]⟩,
    ⟨(some 106), none, 63, .call 155 [(t 103), (t 105)]⟩,
    ⟨(some 18), none, 127, .mv (t 106)⟩])
  .skip))
 (.seq (.seq (.region [o 107 (.mv (t 18)),
   o 108 (.bin .neq (t 107) (.const (.int .i64 0)))])
 (.cond (t 108)
  (.seq (.region [o 109 (.mv (t 14)),
    o 110 (.mv (t 18)),
    o 10 (.mv (t 109)),
    o 11 (.mv (t 110))])
  .ret)
  .skip))
 (.seq (.draw [o 111 (.mv (t 0)),
   ⟨(some 112), none, 1, .nilCheck (t 111)⟩,
   ⟨(some 113), none, 3, .fieldAddr 1 (t 112)⟩,
   ⟨(some 114), none, 7, .load false 1 (t 113)⟩,
   o 115 (.mv (t 1)),
   o 116 (.mv (t 2)),
   o 117 (.fieldAddr 1 (t 12)),
   ⟨(some 118), none, 64, .load false 1 (t 117)⟩,
   o 119 (.mv (t 4)),
   o 120 (.mv (t 17)),
   ⟨(some 121), none, 768, .sliceSl 3 (t 119) (some (t 120)) none none⟩,
   ⟨(some 122), none, 1984, .buildSlice 1 2 [(.slice none 0 0), (.slice none 0 0)] [(0, 1, (t 118)), (1, 1, (t 121))]⟩,
   ⟨(some 123), none, 4032, .call 156 [(t 122)]⟩,
   ⟨(some 124), none, 8160, .build [(.int .i64 0), (.slice none 0 0)] [(0, 1, (t 116)), (1, 1, (t 123))]⟩,
   ⟨none, none, 16383, .mapSet .int (t 114) (t 115) (t 124)⟩])
 (.seq (.region [o 125 (.mv (t 3)),
   o 126 (.mv (t 4)),
   o 127 (.lenSl (t 126)),
   o 128 (.bin .add (t 125) (t 127)),
   o 10 (.mv (t 128)),
   o 11 (.mv (.const (.int .i64 0)))])
 .ret)))))))))))))⟩
theorem c120 : compFn Go.Proofs.Tryz.prog Go.Proofs.Tryz.f120 = some a120 := by kernel_rfl
def a121 : AFunc := ⟨25, [.cell 2 true 3, .tmp 3],
 (.seq (.region [o 2 (.alloc [(.int .i64 0), (.int .i64 0), (.string ⟨#[]⟩)]),
   o 3 (.mv (.const (.int .i64 0)))])
 (.seq (.region [o 6 (.mv (t 0)),
   o 7 (.call 25 [(t 6)]),
   o 4 (.mv (t 7))])
 (.seq (.region [o 8 (.mv (t 4)),
   o 9 (.call 26 [(t 8), (.const (.int .i64 2147483648))]),
   o 10 (.mv (t 4)),
   o 11 (.call 26 [(t 10), (.const (.int .i64 2147483648))]),
   o 12 (.mv (t 4)),
   o 13 (.call 150 [(t 12), (.const (.int .i64 256))]),
   o 14 (.build [(.int .i64 0), (.int .i64 0), (.string ⟨#[]⟩)] [(0, 1, (t 9)), (1, 1, (t 11)), (2, 1, (t 13))]),
   o 5 (.alloc [(.int .i64 0), (.int .i64 0), (.string ⟨#[]⟩)]),
   ⟨none, none, 0, .store 3 (t 5) (t 14)⟩])
 (.seq (.seq (.region [o 15 (.mv (t 4)),
   o 16 (.call 28 [(t 15)]),
   o 17 (.bin .neq (t 16) (.const (.int .i64 0))),
   o 18 (.mv (t 17)),
   ⟨(some 19), (some (18, false)), 0, .load true 3 (t 5)⟩,
   ⟨(some 20), (some (18, false)), 0, .call 157 [(t 19)]⟩,
   ⟨(some 21), (some (18, false)), 0, .un .not (t 20)⟩,
   o 22 (.pick (t 18) (.const (.bool true)) (t 21))])
 (.cond (t 22)
  (.seq (.region [o 23 (.build [(.int .i64 0), (.int .i64 0), (.string ⟨#[]⟩)] []),
    ⟨none, none, 0, .store 3 (t 2) (t 23)⟩,
    o 3 (.mv (.const (.int .i64 170)))])
  .ret)
  .skip))
 (.seq (.region [o 24 (.load true 3 (t 5)),
   ⟨none, none, 0, .store 3 (t 2) (t 24)⟩,
   o 3 (.mv (.const (.int .i64 0)))])
 .ret)))))⟩
theorem c121 : compFn Go.Proofs.Tryz.prog Go.Proofs.Tryz.f121 = some a121 := by kernel_rfl
def a122 : AFunc := ⟨96, [.tmp 6, .tmp 7, .tmp 8],
 (.seq (.region [o 4 (.box (t 1)),
   o 5 (.box (t 2)),
   o 6 (.mv (.const (.int .i64 0))),
   o 7 (.mv (.const (.bool false))),
   o 8 (.mv (.const (.int .i64 0)))])
 (.seq (.region [o 16 (.mv (t 0)),
   o 17 (.fieldAddr 4 (t 4)),
   o 18 (.load false 1 (t 17)),
   o 19 (.fieldAddr 5 (t 4)),
   o 20 (.load false 1 (t 19)),
   o 21 (.call 106 [(t 16), (t 18), (t 20)]),
   o 9 (.mv (t 21))])
 (.seq (.seq (.region [o 22 (.mv (t 9)),
   o 23 (.eqNil .ptr false (t 22) (.const (.pointer none)))])
 (.cond (t 23)
  (.seq (.region [o 6 (.mv (.const (.int .i64 0))),
    o 7 (.mv (.const (.bool false))),
    o 8 (.mv (.const (.int .i64 190)))])
  .ret)
  .skip))
 (.seq (.seq (.region [o 24 (.mv (t 0)),
   o 25 (.mv (t 9)),
   o 26 (.call 44 [(t 24), (t 25)]),
   o 10 (.mv (t 26))])
 (.seq (.region [o 27 (.mv (t 10)),
   o 28 (.bin .neq (t 27) (.const (.int .i64 0)))])
 (.cond (t 28)
  (.seq (.region [o 29 (.mv (t 10)),
    o 6 (.mv (.const (.int .i64 0))),
    o 7 (.mv (.const (.bool false))),
    o 8 (.mv (t 29))])
  .ret)
  .skip)))
 (.seq (.region [o 30 (.mv (t 0)),
   o 31 (.mv (t 9)),
   o 32 (.call 88 [(t 30), (t 31)]),
   o 33 (.mv (t 0)),
   o 34 (.mv (t 9)),
   o 35 (.call 82 [(t 33), (t 34)]),
   o 11 (.mv (t 32)),
   o 12 (.mv (t 35))])
 (.seq (.seq (.region [o 36 (.mv (t 11)),
   o 37 (.fieldAddr 0 (t 5)),
   o 38 (.load false 1 (t 37)),
   o 39 (.fieldAddr 1 (t 5)),
   o 40 (.load false 1 (t 39)),
   o 41 (.call 158 [(t 36), (t 38), (t 40)]),
   o 13 (.mv (t 41))])
 (.seq (.region [o 42 (.mv (t 13)),
   o 43 (.bin .geq (t 42) (.const (.int .i64 0)))])
 (.cond (t 43)
  (.seq (.region [o 44 (.mv (t 13)),
    o 45 (.mv (t 13)),
    o 46 (.mv (t 12)),
    o 47 (.bin .lss (t 45) (t 46)),
    o 6 (.mv (t 44)),
    o 7 (.mv (t 47)),
    o 8 (.mv (.const (.int .i64 0)))])
  .ret)
  .skip)))
 (.seq (.block 0
  (.seq (.region [o 49 (.mv (t 11)),
    o 50 (.lenSl (t 49)),
    o 51 (.mv (t 0)),
    o 52 (.nilCheck (t 51)),
    o 53 (.fieldAddr 2 (t 52)),
    o 54 (.fieldAddr 3 (t 53)),
    o 55 (.load false 1 (t 54)),
    o 56 (.bin .geq (t 50) (t 55)),
    o 57 (.mv (t 56)),
    ⟨(some 58), (some (57, true)), 0, .mv (t 12)⟩,
    ⟨(some 59), (some (57, true)), 0, .mv (t 0)⟩,
    ⟨(some 60), (some (57, true)), 0, .nilCheck (t 59)⟩,
    ⟨(some 61), (some (57, true)), 0, .fieldAddr 2 (t 60)⟩,
    ⟨(some 62), (some (57, true)), 0, .fieldAddr 3 (t 61)⟩,
    ⟨(some 63), (some (57, true)), 0, .load false 1 (t 62)⟩,
    ⟨(some 64), (some (57, true)), 0, .bin .lss (t 58) (t 63)⟩,
    o 65 (.pick (t 57) (t 64) (.const (.bool false))),
    o 48 (.mv (t 65))])
  (.cond (t 48)
   (.seq (.region [o 6 (.mv (.const (.int .i64 0))),
     o 7 (.mv (.const (.bool false))),
     o 8 (.mv (.const (.int .i64 193)))])
   .ret)
   (.seq (.region [o 67 (.mv (t 11)),
     o 68 (.lenSl (t 67)),
     o 69 (.mv (t 0)),
     o 70 (.nilCheck (t 69)),
     o 71 (.fieldAddr 2 (t 70)),
     o 72 (.fieldAddr 3 (t 71)),
     o 73 (.load false 1 (t 72)),
     o 74 (.bin .geq (t 68) (t 73)),
     o 66 (.mv (t 74))])
   (.cond (t 66)
    (.seq (.region [o 6 (.mv (.const (.int .i64 0))),
      o 7 (.mv (.const (.bool false))),
      o 8 (.mv (.const (.int .i64 192)))])
    .ret)
    .skip)))))
 (.seq (.seq (.draw [o 76 (.mv (t 0)),
   ⟨(some 77), none, 1, .nilCheck (t 76)⟩,
   ⟨(some 78), none, 3, .fieldAddr 17 (t 77)⟩,
   ⟨(some 79), none, 7, .load false 1 (t 78)⟩,
   o 80 (.fieldAddr 4 (t 4)),
   ⟨(some 81), none, 16, .load false 1 (t 80)⟩,
   o 82 (.fieldAddr 5 (t 4)),
   ⟨(some 83), none, 64, .load false 1 (t 82)⟩,
   o 84 (.mv (t 11)),
   ⟨(some 85), none, 256, .lenSl (t 84)⟩,
   o 86 (.load true 3 (t 5)),
   ⟨(some 87), none, 1024, .buildSlice 3 1 [(.int .i64 0), (.int .i64 0), (.string ⟨#[]⟩)] [(0, 3, (t 86))]⟩,
   ⟨(some 88), none, 4095, .call 120 [(t 79), (t 81), (t 83), (t 85), (t 87)]⟩,
   ⟨(some 75), none, 8191, .mv (t 88)⟩,
   ⟨(some 89), none, 16383, .extract 0 (t 75)⟩,
   ⟨(some 90), none, 16383, .extract 1 (t 75)⟩,
   ⟨(some 14), none, 32767, .mv (t 89)⟩,
   ⟨(some 15), none, 131071, .mv (t 90)⟩])
 (.seq (.region [o 91 (.mv (t 15)),
   o 92 (.bin .neq (t 91) (.const (.int .i64 0)))])
 (.cond (t 92)
  (.seq (.region [o 93 (.mv (t 15)),
    o 6 (.mv (.const (.int .i64 0))),
    o 7 (.mv (.const (.bool false))),
    o 8 (.mv (t 93))])
  .ret)
  .skip)))
 (.seq (.region [o 94 (.mv (t 11)),
   o 95 (.lenSl (t 94)),
   o 6 (.mv (t 95)),
   o 7 (.mv (.const (.bool false))),
   o 8 (.mv (.const (.int .i64 0)))])
 .ret)))))))))⟩
theorem c122 : compFn Go.Proofs.Tryz.prog Go.Proofs.Tryz.f122 = some a122 := by kernel_rfl
def a123 : AFunc := ⟨8, [],
 (.region [o 4 (.load false 1 (t 1)),
   o 5 (.load false 1 (t 2)),
   o 6 (.mv (t 0)),
   o 7 (.call 53 [(t 4), (t 5), (t 6)])])⟩
theorem c123 : compFn Go.Proofs.Tryz.prog Go.Proofs.Tryz.f123 = some a123 := by kernel_rfl
def a126 : AFunc := ⟨134, [],
 (.seq (.region [o 8 (.mv (.const (.bool true)))])
 (.seq (.region [o 9 (.mv (.const (.bool true)))])
 (.block 0
  (.loop
   (.block 1
    (.seq (.region [o 19 (.mv (t 2)),
      o 20 (.mv (t 1)),
      o 21 (.bin .sub (t 19) (t 20)),
      o 10 (.mv (t 21))])
    (.seq (.seq (.region [o 22 (.mv (t 10)),
      o 23 (.bin .leq (t 22) (.const (.int .i64 12)))])
    (.cond (t 23)
     (.seq (.region [o 24 (.mv (t 0)),
       o 25 (.mv (t 1)),
       o 26 (.mv (t 2)),
       o 27 (.call 159 [(t 24), (t 25), (t 26)])])
     .ret)
     .skip))
    (.seq (.seq (.region [o 28 (.mv (t 3)),
      o 29 (.bin .eql (t 28) (.const (.int .i64 0)))])
    (.cond (t 29)
     (.seq (.region [o 30 (.mv (t 0)),
       o 31 (.mv (t 1)),
       o 32 (.mv (t 2)),
       o 33 (.call 160 [(t 30), (t 31), (t 32)])])
     .ret)
     .skip))
    (.seq (.seq (.region [o 34 (.mv (t 8)),
      o 35 (.un .not (t 34))])
    (.cond (t 35)
     (.seq (.region [o 36 (.mv (t 0)),
       o 37 (.mv (t 1)),
       o 38 (.mv (t 2)),
       o 39 (.call 161 [(t 36), (t 37), (t 38)])])
     (.region [o 40 (.mv (t 3)),
       o 41 (.bin .sub (t 40) (.const (.int .i64 1))),
       o 3 (.mv (t 41))]))
     .skip))
    (.seq (.region [o 43 (.mv (t 0)),
      o 44 (.mv (t 1)),
      o 45 (.mv (t 2)),
      o 46 (.call 162 [(t 43), (t 44), (t 45)]),
      o 42 (.mv (t 46)),
      o 47 (.extract 0 (t 42)),
      o 48 (.extract 1 (t 42)),
      o 11 (.mv (t 47)),
      o 12 (.mv (t 48))])
    (.seq (.seq (.region [o 49 (.mv (t 12)),
      o 50 (.bin .eql (t 49) (.const (.int .i64 2)))])
    (.cond (t 50)
     (.seq (.region [o 51 (.mv (t 0)),
       o 52 (.mv (t 1)),
       o 53 (.mv (t 2)),
       o 54 (.call 163 [(t 51), (t 52), (t 53)])])
     (.seq (.region [o 55 (.mv (t 2)),
       o 56 (.bin .sub (t 55) (.const (.int .i64 1))),
       o 57 (.mv (t 11)),
       o 58 (.mv (t 1)),
       o 59 (.bin .sub (t 57) (t 58)),
       o 60 (.bin .sub (t 56) (t 59)),
       o 11 (.mv (t 60))])
     (.region [o 12 (.mv (.const (.int .i64 1)))])))
     .skip))
    (.seq (.seq (.region [o 61 (.mv (t 8)),
      o 62 (.mv (t 61)),
      ⟨(some 63), (some (62, true)), 0, .mv (t 9)⟩,
      o 64 (.pick (t 62) (t 63) (.const (.bool false))),
      o 65 (.mv (t 64)),
      ⟨(some 66), (some (65, true)), 0, .mv (t 12)⟩,
      ⟨(some 67), (some (65, true)), 0, .bin .eql (t 66) (.const (.int .i64 1))⟩,
      o 68 (.pick (t 65) (t 67) (.const (.bool false)))])
    (.cond (t 68)
     (.seq (.region [o 69 (.mv (t 0)),
       o 70 (.mv (t 1)),
       o 71 (.mv (t 2)),
       o 72 (.call 164 [(t 69), (t 70), (t 71)])])
     (.cond (t 72)
      .ret
      .skip))
     .skip))
    (.seq (.seq (.draw [o 73 (.mv (t 1)),
      ⟨(some 74), none, 1, .bin .gtr (t 73) (.const (.int .i64 0))⟩,
      ⟨(some 75), none, 3, .mv (t 74)⟩,
      ⟨(some 76), (some (75, true)), 7, .mv (t 0)⟩,
      ⟨(some 77), (some (75, true)), 7, .mv (t 1)⟩,
      ⟨(some 78), (some (75, true)), 23, .bin .sub (t 77) (.const (.int .i64 1))⟩,
      ⟨(some 79), (some (75, true)), 63, .indexSl 1 (t 76) (t 78)⟩,
      ⟨(some 80), (some (75, true)), 127, .load false 1 (t 79)⟩,
      ⟨(some 81), (some (75, true)), 7, .mv (t 0)⟩,
      ⟨(some 82), (some (75, true)), 7, .mv (t 11)⟩,
      ⟨(some 83), (some (75, true)), 775, .indexSl 1 (t 81) (t 82)⟩,
      ⟨(some 84), (some (75, true)), 1799, .load false 1 (t 83)⟩,
      ⟨(some 85), (some (75, true)), 4095, .call 165 [(t 80), (t 84)]⟩,
      ⟨(some 86), (some (75, true)), 8191, .un .not (t 85)⟩,
      ⟨(some 87), none, 16383, .pick (t 75) (t 86) (.const (.bool false))⟩])
    (.cond (t 87)
     (.seq (.region [o 88 (.mv (t 0)),
       o 89 (.mv (t 1)),
       o 90 (.mv (t 2)),
       o 91 (.mv (t 11)),
       o 92 (.call 166 [(t 88), (t 89), (t 90), (t 91)]),
       o 13 (.mv (t 92))])
     (.seq (.region [o 93 (.mv (t 13)),
       o 1 (.mv (t 93))])
     (.exit 1)))
     .skip))
    (.seq (.region [o 95 (.mv (t 0)),
      o 96 (.mv (t 1)),
      o 97 (.mv (t 2)),
      o 98 (.mv (t 11)),
      o 99 (.call 167 [(t 95), (t 96), (t 97), (t 98)]),
      o 94 (.mv (t 99)),
      o 100 (.extract 0 (t 94)),
      o 101 (.extract 1 (t 94)),
      o 14 (.mv (t 100)),
      o 15 (.mv (t 101))])
    (.seq (.region [o 102 (.mv (t 15)),
      o 9 (.mv (t 102))])
    (.seq (.region [o 103 (.mv (t 14)),
      o 104 (.mv (t 1)),
      o 105 (.bin .sub (t 103) (t 104)),
      o 106 (.mv (t 2)),
      o 107 (.mv (t 14)),
      o 108 (.bin .sub (t 106) (t 107)),
      o 16 (.mv (t 105)),
      o 17 (.mv (t 108))])
    (.seq (.region [o 109 (.mv (t 10)),
      o 110 (.bin .quo (t 109) (.const (.int .i64 8))),
      o 18 (.mv (t 110))])
    (.seq (.region [o 111 (.mv (t 16)),
      o 112 (.mv (t 17)),
      o 113 (.bin .lss (t 111) (t 112))])
    (.cond (t 113)
     (.seq (.region [o 114 (.mv (t 16)),
       o 115 (.mv (t 18)),
       o 116 (.bin .geq (t 114) (t 115)),
       o 8 (.mv (t 116))])
     (.seq (.region [o 117 (.mv (t 0)),
       o 118 (.mv (t 1)),
       o 119 (.mv (t 14)),
       o 120 (.mv (t 3)),
       o 121 (.call 126 [(t 117), (t 118), (t 119), (t 120)])])
     (.region [o 122 (.mv (t 14)),
       o 123 (.bin .add (t 122) (.const (.int .i64 1))),
       o 1 (.mv (t 123))])))
     (.seq (.region [o 124 (.mv (t 17)),
       o 125 (.mv (t 18)),
       o 126 (.bin .geq (t 124) (t 125)),
       o 8 (.mv (t 126))])
     (.seq (.region [o 127 (.mv (t 0)),
       o 128 (.mv (t 14)),
       o 129 (.bin .add (t 128) (.const (.int .i64 1))),
       o 130 (.mv (t 2)),
       o 131 (.mv (t 3)),
       o 132 (.call 126 [(t 127), (t 129), (t 130), (t 131)])])
     (.region [o 133 (.mv (t 14)),
       o 2 (.mv (t 133))]))))))))))))))))))))))⟩
theorem c126 : compFn Go.Proofs.Tryz.prog Go.Proofs.Tryz.f126 = some a126 := by kernel_rfl
def a127 : AFunc := ⟨8, [.tmp 2],
 (.seq (.region [o 2 (.mv (.const (.int .i64 0)))])
 (.seq (.cond (.const (.bool false))
  (.seq (.region [o 3 (.mv (t 0)),
    o 4 (.toInt .u32 (t 3)),
    o 5 (.call 168 [(t 4)]),
    o 2 (.mv (t 5))])
  .ret)
  .skip)
 (.seq (.region [o 6 (.mv (t 0)),
   o 7 (.call 169 [(t 6)]),
   o 2 (.mv (t 7))])
 .ret)))⟩
theorem c127 : compFn Go.Proofs.Tryz.prog Go.Proofs.Tryz.f127 = some a127 := by kernel_rfl
def a128 : AFunc := ⟨31, [.tmp 4],
 (.seq (.region [o 4 (.mv (.const (.int .i64 0)))])
 (.seq (.seq (.region [o 9 (.mv (t 0)),
   o 10 (.lenSl (t 9)),
   o 11 (.bin .gtr (t 10) (.const (.int .i64 16))),
   o 12 (.mv (t 11)),
   ⟨(some 13), (some (12, false)), 0, .mv (t 0)⟩,
   ⟨(some 14), (some (12, false)), 0, .call 170 [(t 13), (.const (.func (.func 171) #[] #[]))]⟩,
   o 15 (.pick (t 12) (.const (.bool true)) (t 14))])
 (.cond (t 15)
  (.seq (.region [o 4 (.mv (.const (.int .i64 170)))])
  .ret)
  .skip))
 (.seq (.seq (.region [o 16 (.mv (t 0)),
   o 17 (.lenSl (t 16)),
   o 18 (.mv (.const (.int .i64 0)))])
 (.block 0
  (.loop
   (.seq (.region [o 19 (.bin .lss (t 18) (t 17))])
   (.seq (.cond (t 19)
    .skip
    (.exit 0))
   (.seq (.block 1
    (.seq (.region [o 20 (.indexSl 3 (t 16) (t 18)),
      o 21 (.load true 3 (t 20)),
      o 6 (.alloc [(.int .i64 0), (.int .i64 0), (.string ⟨#[]⟩)]),
      ⟨none, none, 0, .store 3 (t 6) (t 21)⟩])
    (.seq (.region [o 23 (.load true 3 (t 6)),
      o 24 (.call 172 [(t 23)]),
      o 22 (.mv (t 24)),
      o 25 (.extract 0 (t 22)),
      o 26 (.extract 1 (t 22)),
      o 7 (.mv (t 25)),
      o 8 (.mv (t 26))])
    (.region [o 27 (.mv (t 1)),
      o 28 (.mv (t 7)),
      o 29 (.callV (t 27) [(t 28)])]))))
   (.region [o 30 (.bin .add (t 18) (.const (.int .i64 1))),
     o 18 (.mv (t 30))])))))))
 (.seq (.region [o 4 (.mv (.const (.int .i64 0)))])
 .ret))))⟩
theorem c128 : compFn Go.Proofs.Tryz.prog Go.Proofs.Tryz.f128 = some a128 := by kernel_rfl
def a129 : AFunc := ⟨7, [],
 (.region [o 3 (.load false 1 (t 1)),
   o 4 (.mv (t 0)),
   o 5 (.buildSlice 1 1 [(.string ⟨#[]⟩)] [(0, 1, (t 4))]),
   o 6 (.call 130 [(t 3), (t 5)]),
   ⟨none, none, 0, .store 1 (t 1) (t 6)⟩])⟩
theorem c129 : compFn Go.Proofs.Tryz.prog Go.Proofs.Tryz.f129 = some a129 := by kernel_rfl
def a130 : AFunc := ⟨8, [.tmp 4],
 (.seq (.region [o 4 (.mv (.const (.string ⟨#[]⟩)))])
 (.seq (.region [o 5 (.mv (t 0)),
   o 6 (.mv (t 1)),
   o 7 (.call 173 [(t 5), (t 6), (.const (.func (.func 174) #[] #[]))]),
   o 4 (.mv (t 7))])
 .ret))⟩
theorem c130 : compFn Go.Proofs.Tryz.prog Go.Proofs.Tryz.f130 = some a130 := by kernel_rfl
def a134 : AFunc := ⟨15, [.tmp 4, .tmp 5],
 (.seq (.region [o 4 (.mv (.const (.string ⟨#[]⟩))),
   o 5 (.mv (.const (.bool false)))])
 (.seq (.seq (.region [o 6 (.mv (t 0)),
   o 7 (.mv (t 1)),
   o 8 (.call 177 [(t 6), (t 7)]),
   o 9 (.un .not (t 8))])
 (.cond (t 9)
  (.seq (.region [o 10 (.mv (t 0)),
    o 4 (.mv (t 10)),
    o 5 (.mv (.const (.bool false)))])
  .ret)
  .skip))
 (.seq (.region [o 11 (.mv (t 0)),
   o 12 (.mv (t 1)),
   o 13 (.lenStr (t 12)),
   o 14 (.sliceStr (t 11) (some (t 13)) none),
   o 4 (.mv (t 14)),
   o 5 (.mv (.const (.bool true)))])
 .ret)))⟩
theorem c134 : compFn Go.Proofs.Tryz.prog Go.Proofs.Tryz.f134 = some a134 := by kernel_rfl
def a135 : AFunc := ⟨172, [.tmp 6, .tmp 7],
 (.seq (.region [o 6 (.mv (.const (.int .u64 0))),
   o 7 (.mv (.const .nilIface))])
 (.seq (.seq (.region [o 18 (.mv (t 0)),
   o 19 (.bin .eql (t 18) (.const (.string ⟨#[]⟩)))])
 (.cond (t 19)
  (.seq (.region [o 20 (.mkIface 225 (.const (.int .i64 2))),
    o 6 (.mv (.const (.int .u64 0))),
    o 7 (.mv (t 20))])
  .ret)
  .skip))
 (.seq (.region [o 21 (.mv (t 1)),
   o 22 (.bin .eql (t 21) (.const (.int .i64 0))),
   o 8 (.mv (t 22))])
 (.seq (.region [o 23 (.mv (t 0)),
   o 9 (.mv (t 23))])
 (.seq (.block 0
  (.seq (.region [o 26 (.mv (t 1)),
    o 27 (.bin .leq (.const (.int .i64 2)) (t 26)),
    o 28 (.mv (t 27)),
    ⟨(some 29), (some (28, true)), 0, .mv (t 1)⟩,
    ⟨(some 30), (some (28, true)), 0, .bin .leq (t 29) (.const (.int .i64 36))⟩,
    o 31 (.pick (t 28) (t 30) (.const (.bool false))),
    o 25 (.mv (t 31))])
  (.cond (t 25)
   .skip
   (.seq (.region [o 33 (.mv (t 1)),
     o 34 (.bin .eql (t 33) (.const (.int .i64 0))),
     o 32 (.mv (t 34))])
   (.cond (t 32)
    (.seq (.region [o 1 (.mv (.const (.int .i64 10)))])
    (.seq (.region [o 35 (.mv (t 0)),
      o 36 (.indexStr (t 35) (.const (.int .i64 0))),
      o 37 (.bin .eql (t 36) (.const (.int .u8 48)))])
    (.cond (t 37)
     (.block 1
      (.seq (.region [o 41 (.mv (t 0)),
        o 42 (.lenStr (t 41)),
        o 43 (.bin .geq (t 42) (.const (.int .i64 3))),
        o 44 (.mv (t 43)),
        ⟨(some 45), (some (44, true)), 0, .mv (t 0)⟩,
        ⟨(some 46), (some (44, true)), 0, .indexStr (t 45) (.const (.int .i64 1))⟩,
        ⟨(some 47), (some (44, true)), 0, .call 178 [(t 46)]⟩,
        ⟨(some 48), (some (44, true)), 0, .bin .eql (t 47) (.const (.int .u8 98))⟩,
        o 49 (.pick (t 44) (t 48) (.const (.bool false))),
        o 40 (.mv (t 49))])
      (.cond (t 40)
       (.seq (.region [o 1 (.mv (.const (.int .i64 2)))])
       (.region [o 50 (.mv (t 0)),
         o 51 (.sliceStr (t 50) (some (.const (.int .i64 2))) none),
         o 0 (.mv (t 51))]))
       (.seq (.region [o 53 (.mv (t 0)),
         o 54 (.lenStr (t 53)),
         o 55 (.bin .geq (t 54) (.const (.int .i64 3))),
         o 56 (.mv (t 55)),
         ⟨(some 57), (some (56, true)), 0, .mv (t 0)⟩,
         ⟨(some 58), (some (56, true)), 0, .indexStr (t 57) (.const (.int .i64 1))⟩,
         ⟨(some 59), (some (56, true)), 0, .call 178 [(t 58)]⟩,
         ⟨(some 60), (some (56, true)), 0, .bin .eql (t 59) (.const (.int .u8 111))⟩,
         o 61 (.pick (t 56) (t 60) (.const (.bool false))),
         o 52 (.mv (t 61))])
       (.cond (t 52)
        (.seq (.region [o 1 (.mv (.const (.int .i64 8)))])
        (.region [o 62 (.mv (t 0)),
          o 63 (.sliceStr (t 62) (some (.const (.int .i64 2))) none),
          o 0 (.mv (t 63))]))
        (.seq (.region [o 65 (.mv (t 0)),
          o 66 (.lenStr (t 65)),
          o 67 (.bin .geq (t 66) (.const (.int .i64 3))),
          o 68 (.mv (t 67)),
          ⟨(some 69), (some (68, true)), 0, .mv (t 0)⟩,
          ⟨(some 70), (some (68, true)), 0, .indexStr (t 69) (.const (.int .i64 1))⟩,
          ⟨(some 71), (some (68, true)), 0, .call 178 [(t 70)]⟩,
          ⟨(some 72), (some (68, true)), 0, .bin .eql (t 71) (.const (.int .u8 120))⟩,
          o 73 (.pick (t 68) (t 72) (.const (.bool false))),
          o 64 (.mv (t 73))])
        (.cond (t 64)
         (.seq (.region [o 1 (.mv (.const (.int .i64 16)))])
         (.region [o 74 (.mv (t 0)),
           o 75 (.sliceStr (t 74) (some (.const (.int .i64 2))) none),
           o 0 (.mv (t 75))]))
         (.seq (.region [o 1 (.mv (.const (.int .i64 8)))])
         (.region [o 38 (.mv (t 0)),
           o 39 (.sliceStr (t 38) (some (.const (.int .i64 1))) none),
           o 0 (.mv (t 39))])))))))))
     .skip)))
    (.seq (.region [o 24 (.mkIface 225 (.const (.int .i64 3))),
      o 6 (.mv (.const (.int .u64 0))),
      o 7 (.mv (t 24))])
    .ret))))))
 (.seq (.seq (.region [o 76 (.mv (t 2)),
   o 77 (.bin .eql (t 76) (.const (.int .i64 0)))])
 (.cond (t 77)
  (.region [o 2 (.mv (.const (.int .i64 64)))])
  (.seq (.region [o 78 (.mv (t 2)),
    o 79 (.bin .lss (t 78) (.const (.int .i64 0))),
    o 80 (.mv (t 79)),
    ⟨(some 81), (some (80, false)), 0, .mv (t 2)⟩,
    ⟨(some 82), (some (80, false)), 0, .bin .gtr (t 81) (.const (.int .i64 64))⟩,
    o 83 (.pick (t 80) (.const (.bool true)) (t 82))])
  (.cond (t 83)
   (.seq (.region [o 84 (.mkIface 225 (.const (.int .i64 4))),
     o 6 (.mv (.const (.int .u64 0))),
     o 7 (.mv (t 84))])
   .ret)
   .skip))))
 (.seq (.region [o 10 (.mv (.const (.int .u64 0)))])
 (.seq (.seq (.region [o 85 (.mv (t 1))])
 (.block 2
  (.seq (.region [o 91 (.bin .eql (t 85) (.const (.int .i64 10))),
    o 90 (.mv (t 91))])
  (.cond (t 90)
   (.region [o 10 (.mv (.const (.int .u64 1844674407370955162)))])
   (.seq (.region [o 93 (.bin .eql (t 85) (.const (.int .i64 16))),
     o 92 (.mv (t 93))])
   (.cond (t 92)
    (.region [o 10 (.mv (.const (.int .u64 1152921504606846976)))])
    (.region [o 86 (.mv (t 1)),
      o 87 (.toInt .u64 (t 86)),
      o 88 (.bin .quo (.const (.int .u64 18446744073709551615)) (t 87)),
      o 89 (.bin .add (t 88) (.const (.int .u64 1))),
      o 10 (.mv (t 89))])))))))
 (.seq (.region [o 94 (.mv (t 2)),
   o 95 (.toInt .u64 (t 94)),
   o 96 (.bin .shl (.const (.int .u64 1)) (t 95)),
   o 97 (.bin .sub (t 96) (.const (.int .u64 1))),
   o 11 (.mv (t 97))])
 (.seq (.region [o 12 (.mv (.const (.bool false)))])
 (.seq (.region [o 13 (.mv (.const (.int .u64 0)))])
 (.seq (.seq (.region [o 98 (.mv (t 0)),
   o 99 (.strToBytes (t 98)),
   o 100 (.lenSl (t 99)),
   o 101 (.mv (.const (.int .i64 0)))])
 (.block 3
  (.loop
   (.seq (.region [o 102 (.bin .lss (t 101) (t 100))])
   (.seq (.cond (t 102)
    .skip
    (.exit 3))
   (.seq (.block 4
    (.seq (.region [o 103 (.indexSl 1 (t 99) (t 101)),
      o 104 (.load false 1 (t 103)),
      o 15 (.mv (t 104))])
    (.seq (.region [o 16 (.mv (.const (.int .u8 0)))])
    (.seq (.block 5
     (.seq (.region [o 107 (.mv (t 15)),
       o 108 (.bin .eql (t 107) (.const (.int .u8 95))),
       o 109 (.mv (t 108)),
       ⟨(some 110), (some (109, true)), 0, .mv (t 8)⟩,
       o 111 (.pick (t 109) (t 110) (.const (.bool false))),
       o 106 (.mv (t 111))])
     (.cond (t 106)
      (.seq (.region [o 12 (.mv (.const (.bool true)))])
      (.exit 4))
      (.seq (.region [o 113 (.mv (t 15)),
        o 114 (.bin .leq (.const (.int .u8 48)) (t 113)),
        o 115 (.mv (t 114)),
        ⟨(some 116), (some (115, true)), 0, .mv (t 15)⟩,
        ⟨(some 117), (some (115, true)), 0, .bin .leq (t 116) (.const (.int .u8 57))⟩,
        o 118 (.pick (t 115) (t 117) (.const (.bool false))),
        o 112 (.mv (t 118))])
      (.cond (t 112)
       (.region [o 119 (.mv (t 15)),
         o 120 (.bin .sub (t 119) (.const (.int .u8 48))),
         o 16 (.mv (t 120))])
       (.seq (.region [o 122 (.mv (t 15)),
         o 123 (.call 178 [(t 122)]),
         o 124 (.bin .leq (.const (.int .u8 97)) (t 123)),
         o 125 (.mv (t 124)),
         ⟨(some 126), (some (125, true)), 0, .mv (t 15)⟩,
         ⟨(some 127), (some (125, true)), 0, .call 178 [(t 126)]⟩,
         ⟨(some 128), (some (125, true)), 0, .bin .leq (t 127) (.const (.int .u8 122))⟩,
         o 129 (.pick (t 125) (t 128) (.const (.bool false))),
         o 121 (.mv (t 129))])
       (.cond (t 121)
        (.region [o 130 (.mv (t 15)),
          o 131 (.call 178 [(t 130)]),
          o 132 (.bin .sub (t 131) (.const (.int .u8 97))),
          o 133 (.bin .add (t 132) (.const (.int .u8 10))),
          o 16 (.mv (t 133))])
        (.seq (.region [o 105 (.mkIface 225 (.const (.int .i64 2))),
          o 6 (.mv (.const (.int .u64 0))),
          o 7 (.mv (t 105))])
        .ret))))))))
    (.seq (.seq (.region [o 134 (.mv (t 16)),
      o 135 (.mv (t 1)),
      o 136 (.toInt .u8 (t 135)),
      o 137 (.bin .geq (t 134) (t 136))])
    (.cond (t 137)
     (.seq (.region [o 138 (.mkIface 225 (.const (.int .i64 2))),
       o 6 (.mv (.const (.int .u64 0))),
       o 7 (.mv (t 138))])
     .ret)
     .skip))
    (.seq (.seq (.region [o 139 (.mv (t 13)),
      o 140 (.mv (t 10)),
      o 141 (.bin .geq (t 139) (t 140))])
    (.cond (t 141)
     (.seq (.region [o 142 (.mv (t 11)),
       o 143 (.mkIface 225 (.const (.int .i64 1))),
       o 6 (.mv (t 142)),
       o 7 (.mv (t 143))])
     .ret)
     .skip))
    (.seq (.region [o 144 (.mv (t 13)),
      o 145 (.mv (t 1)),
      o 146 (.toInt .u64 (t 145)),
      o 147 (.bin .mul (t 144) (t 146)),
      o 13 (.mv (t 147))])
    (.seq (.region [o 148 (.mv (t 13)),
      o 149 (.mv (t 16)),
      o 150 (.toInt .u64 (t 149)),
      o 151 (.bin .add (t 148) (t 150)),
      o 17 (.mv (t 151))])
    (.seq (.seq (.region [o 152 (.mv (t 17)),
      o 153 (.mv (t 13)),
      o 154 (.bin .lss (t 152) (t 153)),
      o 155 (.mv (t 154)),
      ⟨(some 156), (some (155, false)), 0, .mv (t 17)⟩,
      ⟨(some 157), (some (155, false)), 0, .mv (t 11)⟩,
      ⟨(some 158), (some (155, false)), 0, .bin .gtr (t 156) (t 157)⟩,
      o 159 (.pick (t 155) (.const (.bool true)) (t 158))])
    (.cond (t 159)
     (.seq (.region [o 160 (.mv (t 11)),
       o 161 (.mkIface 225 (.const (.int .i64 1))),
       o 6 (.mv (t 160)),
       o 7 (.mv (t 161))])
     .ret)
     .skip))
    (.region [o 162 (.mv (t 17)),
      o 13 (.mv (t 162))]))))))))))
   (.region [o 163 (.bin .add (t 101) (.const (.int .i64 1))),
     o 101 (.mv (t 163))])))))))
 (.seq (.seq (.region [o 164 (.mv (t 12)),
   o 165 (.mv (t 164)),
   ⟨(some 166), (some (165, true)), 0, .mv (t 9)⟩,
   ⟨(some 167), (some (165, true)), 0, .call 179 [(t 166)]⟩,
   ⟨(some 168), (some (165, true)), 0, .un .not (t 167)⟩,
   o 169 (.pick (t 165) (t 168) (.const (.bool false)))])
 (.cond (t 169)
  (.seq (.region [o 170 (.mkIface 225 (.const (.int .i64 2))),
    o 6 (.mv (.const (.int .u64 0))),
    o 7 (.mv (t 170))])
  .ret)
  .skip))
 (.seq (.region [o 171 (.mv (t 13)),
   o 6 (.mv (t 171)),
   o 7 (.mv (.const .nilIface))])
 .ret))))))))))))))⟩
theorem c135 : compFn Go.Proofs.Tryz.prog Go.Proofs.Tryz.f135 = some a135 := by kernel_rfl
def a136 : AFunc := ⟨43, [.tmp 10],
 (.seq (.region [o 10 (.mv (.const .nilIface))])
 (.seq (.seq (.region [o 11 (.mv (t 4))])
 (.block 0
  (.seq (.region [o 13 (.mkIface 225 (.const (.int .i64 2))),
    o 14 (.eqIface false [(2, .int), (3, .int), (4, .bool), (5, .int), (6, .int), (9, .str), (10, .str), (11, .str), (12, .int), (21, .int), (26, .int), (36, .int), (75, .int), (94, .int), (158, .int), (210, .int), (217, .int), (225, .int), (235, .int), (281, .int), (282, .int), (284, .int), (285, .int)] (t 11) (t 13)),
    o 12 (.mv (t 14))])
  (.cond (t 12)
   (.seq (.region [o 15 (.mv (t 0)),
     o 16 (.mv (t 1)),
     o 17 (.call 180 [(t 15), (t 16)]),
     o 18 (.mkIface 227 (t 17)),
     o 10 (.mv (t 18))])
   .ret)
   (.seq (.region [o 20 (.mkIface 225 (.const (.int .i64 1))),
     o 21 (.eqIface false [(2, .int), (3, .int), (4, .bool), (5, .int), (6, .int), (9, .str), (10, .str), (11, .str), (12, .int), (21, .int), (26, .int), (36, .int), (75, .int), (94, .int), (158, .int), (210, .int), (217, .int), (225, .int), (235, .int), (281, .int), (282, .int), (284, .int), (285, .int)] (t 11) (t 20)),
     o 19 (.mv (t 21))])
   (.cond (t 19)
    (.seq (.region [o 22 (.mv (t 0)),
      o 23 (.mv (t 1)),
      o 24 (.call 181 [(t 22), (t 23)]),
      o 25 (.mkIface 227 (t 24)),
      o 10 (.mv (t 25))])
    .ret)
    (.seq (.region [o 27 (.mkIface 225 (.const (.int .i64 3))),
      o 28 (.eqIface false [(2, .int), (3, .int), (4, .bool), (5, .int), (6, .int), (9, .str), (10, .str), (11, .str), (12, .int), (21, .int), (26, .int), (36, .int), (75, .int), (94, .int), (158, .int), (210, .int), (217, .int), (225, .int), (235, .int), (281, .int), (282, .int), (284, .int), (285, .int)] (t 11) (t 27)),
      o 26 (.mv (t 28))])
    (.cond (t 26)
     (.seq (.region [o 29 (.mv (t 0)),
       o 30 (.mv (t 1)),
       o 31 (.mv (t 2)),
       o 32 (.call 182 [(t 29), (t 30), (t 31)]),
       o 33 (.mkIface 227 (t 32)),
       o 10 (.mv (t 33))])
     .ret)
     (.seq (.region [o 35 (.mkIface 225 (.const (.int .i64 4))),
       o 36 (.eqIface false [(2, .int), (3, .int), (4, .bool), (5, .int), (6, .int), (9, .str), (10, .str), (11, .str), (12, .int), (21, .int), (26, .int), (36, .int), (75, .int), (94, .int), (158, .int), (210, .int), (217, .int), (225, .int), (235, .int), (281, .int), (282, .int), (284, .int), (285, .int)] (t 11) (t 35)),
       o 34 (.mv (t 36))])
     (.cond (t 34)
      (.seq (.region [o 37 (.mv (t 0)),
        o 38 (.mv (t 1)),
        o 39 (.mv (t 3)),
        o 40 (.call 183 [(t 37), (t 38), (t 39)]),
        o 41 (.mkIface 227 (t 40)),
        o 10 (.mv (t 41))])
      .ret)
      .skip))))))))))
 (.seq (.region [o 42 (.mv (t 4)),
   o 10 (.mv (t 42))])
 .ret)))⟩
theorem c136 : compFn Go.Proofs.Tryz.prog Go.Proofs.Tryz.f136 = some a136 := by kernel_rfl
def a137 : AFunc := ⟨5, [.tmp 2],
 (.seq (.region [o 2 (.mv (.const (.string ⟨#[]⟩)))])
 (.seq (.region [o 3 (.mv (t 0)),
   o 4 (.call 184 [(t 3)]),
   o 2 (.mv (t 4))])
 .ret))⟩
theorem c137 : compFn Go.Proofs.Tryz.prog Go.Proofs.Tryz.f137 = some a137 := by kernel_rfl
def a139 : AFunc := ⟨38, [.tmp 8],
 (.seq (.region [o 8 (.mv (.const (.int .i64 0)))])
 (.seq (.region [o 10 (.mv (t 0)),
   o 11 (.nilCheck (t 10)),
   o 12 (.fieldAddr 2 (t 11)),
   o 13 (.load false 1 (t 12)),
   o 14 (.mv (t 1)),
   o 15 (.lookup .str (.pointer none) false (t 13) (t 14)),
   o 9 (.mv (t 15))])
 (.seq (.block 0
  (.seq (.region [o 17 (.mv (t 0)),
    o 18 (.nilCheck (t 17)),
    o 19 (.fieldAddr 3 (t 18)),
    o 20 (.load false 1 (t 19)),
    o 16 (.mv (t 20))])
  (.cond (t 16)
   (.seq (.region [o 8 (.mv (.const (.int .i64 41)))])
   .ret)
   (.seq (.region [o 22 (.mv (t 9)),
     o 23 (.eqNil .ptr false (t 22) (.const (.pointer none))),
     o 21 (.mv (t 23))])
   (.cond (t 21)
    (.seq (.region [o 8 (.mv (.const (.int .i64 42)))])
    .ret)
    (.seq (.region [o 25 (.mv (t 2)),
      o 26 (.mv (t 9)),
      o 27 (.callV (t 25) [(t 26)]),
      o 28 (.un .not (t 27)),
      o 24 (.mv (t 28))])
    (.cond (t 24)
     (.seq (.region [o 8 (.mv (.const (.int .i64 1)))])
     .ret)
     (.seq (.region [o 30 (.mv (t 0)),
       o 31 (.call 95 [(t 30)]),
       o 29 (.mv (t 31))])
     (.cond (t 29)
      (.seq (.region [o 8 (.mv (.const (.int .i64 41)))])
      .ret)
      .skip)))))))))
 (.seq (.region [o 32 (.mv (t 9)),
   o 33 (.nilCheck (t 32)),
   o 34 (.fieldAddr 2 (t 33)),
   ⟨none, none, 0, .store 1 (t 34) (.const (.bool true))⟩])
 (.seq (.region [o 35 (.mv (t 3)),
   o 36 (.mv (t 9)),
   o 37 (.callV (t 35) [(t 36)])])
 (.seq (.region [o 8 (.mv (.const (.int .i64 0)))])
 .ret))))))⟩
theorem c139 : compFn Go.Proofs.Tryz.prog Go.Proofs.Tryz.f139 = some a139 := by kernel_rfl
def a140 : AFunc := ⟨3, [.tmp 2],
 (.seq (.region [o 2 (.mv (.const (.bool false)))])
 (.seq (.region [o 2 (.mv (.const (.bool true)))])
 .ret))⟩
theorem c140 : compFn Go.Proofs.Tryz.prog Go.Proofs.Tryz.f140 = some a140 := by kernel_rfl
def a144 : AFunc := ⟨10, [.tmp 2],
 (.seq (.region [o 2 (.mv (.const (.slice none 0 0)))])
 (.seq (.region [o 4 (.mv (t 0)),
   o 5 (.call 187 [(t 4)]),
   o 3 (.mv (t 5))])
 (.seq (.region [o 6 (.mv (t 3)),
   o 7 (.call 85 [(t 6)])])
 (.seq (.region [o 8 (.mv (t 3)),
   o 9 (.call 188 [(t 8)]),
   o 2 (.mv (t 9))])
 .ret))))⟩
theorem c144 : compFn Go.Proofs.Tryz.prog Go.Proofs.Tryz.f144 = some a144 := by kernel_rfl
def a145 : AFunc := ⟨44, [.tmp 6],
 (.seq (.region [o 5 (.box (t 2)),
   o 6 (.mv (.const (.int .i64 0)))])
 (.seq (.region [o 10 (.fieldAddr 0 (t 5)),
   o 11 (.load false 1 (t 10)),
   o 12 (.fieldAddr 1 (t 5)),
   o 13 (.load false 1 (t 12)),
   o 14 (.call 151 [(t 11), (t 13)]),
   o 9 (.mv (t 14)),
   o 15 (.extract 0 (t 9)),
   o 16 (.extract 1 (t 9)),
   o 7 (.mv (t 15)),
   o 8 (.mv (t 16))])
 (.seq (.seq (.region [o 17 (.mv (t 8)),
   o 18 (.bin .neq (t 17) (.const (.int .i64 0))),
   o 19 (.mv (t 18)),
   ⟨(some 20), (some (19, false)), 0, .mv (t 1)⟩,
   ⟨(some 21), (some (19, false)), 0, .bin .lss (t 20) (.const (.int .i64 1))⟩,
   o 22 (.pick (t 19) (.const (.bool true)) (t 21)),
   o 23 (.mv (t 22)),
   ⟨(some 24), (some (23, false)), 0, .mv (t 1)⟩,
   ⟨(some 25), (some (23, false)), 0, .bin .gtr (t 24) (.const (.int .i64 2147483647))⟩,
   o 26 (.pick (t 23) (.const (.bool true)) (t 25))])
 (.cond (t 26)
  (.seq (.region [o 6 (.mv (.const (.int .i64 1)))])
  .ret)
  .skip))
 (.seq (.seq (.draw [o 27 (.mv (t 0)),
   ⟨(some 28), none, 1, .nilCheck (t 27)⟩,
   ⟨(some 29), none, 3, .fieldAddr 0 (t 28)⟩,
   ⟨(some 30), none, 7, .load false 1 (t 29)⟩,
   o 31 (.mv (t 1)),
   ⟨(some 32), none, 16, .call 99 [(t 31)]⟩,
   o 33 (.mv (t 7)),
   ⟨(some 34), none, 127, .call 66 [(t 30), (t 32), (t 33)]⟩,
   ⟨(some 8), none, 255, .mv (t 34)⟩])
 (.seq (.region [o 35 (.mv (t 8)),
   o 36 (.bin .eql (t 35) (.const (.int .i64 0)))])
 (.cond (t 36)
  (.draw [o 37 (.mv (t 0)),
    ⟨(some 38), none, 1, .nilCheck (t 37)⟩,
    ⟨(some 39), none, 3, .fieldAddr 1 (t 38)⟩,
    ⟨(some 40), none, 7, .load false 1 (t 39)⟩,
    o 41 (.mv (t 1)),
    o 42 (.load true 2 (t 5)),
    ⟨none, none, 63, .mapSet .int (t 40) (t 41) (t 42)⟩])
  .skip)))
 (.seq (.region [o 43 (.mv (t 8)),
   o 6 (.mv (t 43))])
 .ret)))))⟩
theorem c145 : compFn Go.Proofs.Tryz.prog Go.Proofs.Tryz.f145 = some a145 := by kernel_rfl
def a146 : AFunc := ⟨42, [.tmp 4],
 (.seq (.region [o 4 (.mv (.const (.slice none 0 0)))])
 (.seq (.region [o 8 (.mv (t 0)),
   o 9 (.mv (t 1)),
   o 10 (.call 189 [(t 8), (t 9)]),
   o 5 (.mv (t 10))])
 (.seq (.seq (.region [o 11 (.mv (t 5)),
   o 12 (.bin .eql (t 11) (.const (.int .i64 (-1))))])
 (.cond (t 12)
  (.seq (.region [o 13 (.mv (t 0)),
    o 4 (.mv (t 13))])
  .ret)
  .skip))
 (.seq (.seq (.region [o 14 (.mv (t 5)),
   o 15 (.bin .add (t 14) (.const (.int .i64 1))),
   o 6 (.mv (t 15))])
 (.block 0
  (.loop
   (.seq (.seq (.region [o 16 (.mv (t 6)),
     o 17 (.mv (t 0)),
     o 18 (.lenSl (t 17)),
     o 19 (.bin .lss (t 16) (t 18))])
   (.cond (t 19)
    .skip
    (.exit 0)))
   (.seq (.block 1
    (.seq (.region [o 22 (.mv (t 0)),
      o 23 (.mv (t 6)),
      o 24 (.indexSl 3 (t 22) (t 23)),
      o 25 (.load true 3 (t 24)),
      o 7 (.alloc [(.int .i64 0), (.int .i64 0), (.int .i64 0)]),
      ⟨none, none, 0, .store 3 (t 7) (t 25)⟩])
    (.seq (.region [o 26 (.mv (t 1)),
      o 27 (.load true 3 (t 7)),
      o 28 (.callV (t 26) [(t 27)]),
      o 29 (.un .not (t 28))])
    (.cond (t 29)
     (.seq (.region [o 30 (.mv (t 0)),
       o 31 (.mv (t 5)),
       o 32 (.load true 3 (t 7)),
       o 33 (.indexSl 3 (t 30) (t 31)),
       ⟨none, none, 0, .store 3 (t 33) (t 32)⟩])
     (.region [o 34 (.mv (t 5)),
       o 35 (.bin .add (t 34) (.const (.int .i64 1))),
       o 5 (.mv (t 35))]))
     .skip))))
   (.region [o 20 (.mv (t 6)),
     o 21 (.bin .add (t 20) (.const (.int .i64 1))),
     o 6 (.mv (t 21))]))))))
 (.seq (.region [o 36 (.mv (t 0)),
   o 37 (.mv (t 5)),
   o 38 (.sliceSl 3 (t 36) (some (t 37)) none none),
   ⟨none, none, 0, .clearSl 3 [(.int .i64 0), (.int .i64 0), (.int .i64 0)] (t 38)⟩])
 (.seq (.region [o 39 (.mv (t 0)),
   o 40 (.mv (t 5)),
   o 41 (.sliceSl 3 (t 39) none (some (t 40)) none),
   o 4 (.mv (t 41))])
 .ret))))))⟩
theorem c146 : compFn Go.Proofs.Tryz.prog Go.Proofs.Tryz.f146 = some a146 := by kernel_rfl
def a147 : AFunc := ⟨22, [.tmp 4],
 (.seq (.region [o 3 (.box (t 0)),
   o 4 (.mv (.const (.bool false)))])
 (.seq (.seq (.region [o 5 (.fieldAddr 2 (t 3)),
   o 6 (.load false 1 (t 5)),
   o 7 (.load false 1 (t 1)),
   o 8 (.bin .lss (t 6) (t 7))])
 (.cond (t 8)
  (.region [o 9 (.load false 1 (t 2)),
    o 10 (.fieldAddr 0 (t 3)),
    o 11 (.load false 1 (t 10)),
    o 12 (.fieldAddr 1 (t 3)),
    o 13 (.load false 1 (t 12)),
    o 14 (.fieldAddr 2 (t 3)),
    o 15 (.load false 1 (t 14)),
    o 16 (.build [(.int .u8 0), (.int .i64 0), (.int .i64 0), (.int .i64 0), (.int .i64 0), (.int .i64 0), (.int .i64 0), (.bool false), (.slice none 0 0), (.slice none 0 0), (.string ⟨#[]⟩)] [(0, 1, (.const (.int .u8 19))), (2, 1, (t 11)), (3, 1, (t 13)), (5, 1, (t 15))]),
    o 17 (.call 83 [(t 9), (t 16)])])
  .skip))
 (.seq (.region [o 18 (.fieldAddr 2 (t 3)),
   o 19 (.load false 1 (t 18)),
   o 20 (.load false 1 (t 1)),
   o 21 (.bin .lss (t 19) (t 20)),
   o 4 (.mv (t 21))])
 .ret)))⟩
theorem c147 : compFn Go.Proofs.Tryz.prog Go.Proofs.Tryz.f147 = some a147 := by kernel_rfl
def a150 : AFunc := ⟨59, [.tmp 4],
 (.seq (.region [o 4 (.mv (.const (.string ⟨#[]⟩)))])
 (.seq (.region [o 7 (.mv (t 0)),
   o 8 (.nilCheck (t 7)),
   o 9 (.fieldAddr 1 (t 8)),
   o 10 (.load false 1 (t 9)),
   o 5 (.mv (t 10))])
 (.seq (.region [o 11 (.mv (t 0)),
   o 12 (.mv (t 1)),
   o 13 (.call 190 [(t 11), (t 12)]),
   o 6 (.mv (t 13))])
 (.seq (.block 0
  (.seq (.region [o 15 (.mv (t 0)),
    o 16 (.nilCheck (t 15)),
    o 17 (.fieldAddr 2 (t 16)),
    o 18 (.load false 1 (t 17)),
    o 19 (.bin .neq (t 18) (.const (.int .i64 0))),
    o 14 (.mv (t 19))])
  (.cond (t 14)
   (.seq (.region [o 4 (.mv (.const (.string ⟨#[]⟩)))])
   .ret)
   (.seq (.draw [o 21 (.mv (t 6)),
     o 22 (.mv (t 0)),
     ⟨(some 23), none, 2, .nilCheck (t 22)⟩,
     ⟨(some 24), none, 6, .fieldAddr 0 (t 23)⟩,
     ⟨(some 25), none, 14, .load false 1 (t 24)⟩,
     ⟨(some 26), none, 30, .lenStr (t 25)⟩,
     o 27 (.mv (t 0)),
     ⟨(some 28), none, 64, .nilCheck (t 27)⟩,
     ⟨(some 29), none, 192, .fieldAddr 1 (t 28)⟩,
     ⟨(some 30), none, 448, .load false 1 (t 29)⟩,
     ⟨(some 31), none, 1022, .bin .sub (t 26) (t 30)⟩,
     ⟨(some 32), none, 2047, .bin .gtr (t 21) (t 31)⟩,
     ⟨(some 20), none, 4095, .mv (t 32)⟩])
   (.cond (t 20)
    (.seq (.region [o 33 (.mv (t 0)),
      o 34 (.mv (t 5)),
      o 35 (.call 61 [(t 33), (t 34), (.const (.int .i64 20))])])
    (.seq (.region [o 4 (.mv (.const (.string ⟨#[]⟩)))])
    .ret))
    .skip)))))
 (.seq (.region [o 36 (.mv (t 0)),
   o 37 (.nilCheck (t 36)),
   o 38 (.fieldAddr 1 (t 37)),
   o 39 (.load false 1 (t 38)),
   o 40 (.mv (t 6)),
   o 41 (.bin .add (t 39) (t 40)),
   o 42 (.nilCheck (t 36)),
   o 43 (.fieldAddr 1 (t 42)),
   ⟨none, none, 0, .store 1 (t 43) (t 41)⟩])
 (.seq (.draw [o 44 (.mv (t 0)),
   ⟨(some 45), none, 1, .nilCheck (t 44)⟩,
   ⟨(some 46), none, 3, .fieldAddr 0 (t 45)⟩,
   ⟨(some 47), none, 7, .load false 1 (t 46)⟩,
   o 48 (.mv (t 0)),
   ⟨(some 49), none, 16, .nilCheck (t 48)⟩,
   ⟨(some 50), none, 48, .fieldAddr 1 (t 49)⟩,
   ⟨(some 51), none, 112, .load false 1 (t 50)⟩,
   o 52 (.mv (t 6)),
   ⟨(some 53), none, 496, .bin .sub (t 51) (t 52)⟩,
   o 54 (.mv (t 0)),
   ⟨(some 55), none, 1024, .nilCheck (t 54)⟩,
   ⟨(some 56), none, 3072, .fieldAddr 1 (t 55)⟩,
   ⟨(some 57), none, 7168, .load false 1 (t 56)⟩,
   ⟨(some 58), none, 16383, .sliceStr (t 47) (some (t 53)) (some (t 57))⟩,
   ⟨(some 4), none, 32767, .mv (t 58)⟩])
 .ret))))))⟩
theorem c150 : compFn Go.Proofs.Tryz.prog Go.Proofs.Tryz.f150 = some a150 := by kernel_rfl
def a151 : AFunc := ⟨36, [.tmp 4, .tmp 5],
 (.seq (.region [o 4 (.mv (.const (.string ⟨#[]⟩))),
   o 5 (.mv (.const (.int .i64 0)))])
 (.seq (.region [o 11 (.mv (t 1)),
   o 12 (.call 152 [(t 11)]),
   o 10 (.mv (t 12)),
   o 13 (.extract 0 (t 10)),
   o 14 (.extract 1 (t 10)),
   o 6 (.mv (t 13)),
   o 7 (.mv (t 14))])
 (.seq (.seq (.region [o 15 (.mv (t 7)),
   o 16 (.bin .neq (t 15) (.const (.int .i64 0))),
   o 17 (.mv (t 16)),
   ⟨(some 18), (some (17, false)), 0, .mv (t 0)⟩,
   ⟨(some 19), (some (17, false)), 0, .bin .lss (t 18) (.const (.int .i64 1))⟩,
   o 20 (.pick (t 17) (.const (.bool true)) (t 19)),
   o 21 (.mv (t 20)),
   ⟨(some 22), (some (21, false)), 0, .mv (t 0)⟩,
   ⟨(some 23), (some (21, false)), 0, .bin .gtr (t 22) (.const (.int .i64 1073741824))⟩,
   o 24 (.pick (t 21) (.const (.bool true)) (t 23))])
 (.cond (t 24)
  (.seq (.region [o 4 (.mv (.const (.string ⟨#[]⟩))),
    o 5 (.mv (.const (.int .i64 170)))])
  .ret)
  .skip))
 (.seq (.region [o 26 (.mv (t 0)),
   o 27 (.toInt .u64 (t 26)),
   o 28 (.buildSlice 1 2 [(.int .u64 0), (.int .u64 0)] [(0, 1, (.const (.int .u64 67))), (1, 1, (t 27))]),
   o 29 (.call 31 [(.const (.string ⟨#[]⟩)), (t 28)]),
   o 30 (.call 191 [(t 29)]),
   o 25 (.mv (t 30)),
   o 31 (.extract 0 (t 25)),
   o 32 (.extract 1 (t 25)),
   o 8 (.mv (t 31)),
   o 9 (.mv (t 32))])
 (.seq (.region [o 33 (.mv (t 8)),
   o 34 (.mv (t 6)),
   o 35 (.bin .add (t 33) (t 34)),
   o 4 (.mv (t 35)),
   o 5 (.mv (.const (.int .i64 0)))])
 .ret)))))⟩
theorem c151 : compFn Go.Proofs.Tryz.prog Go.Proofs.Tryz.f151 = some a151 := by kernel_rfl
def a152 : AFunc := ⟨11, [.tmp 2, .tmp 3],
 (.seq (.region [o 2 (.mv (.const (.string ⟨#[]⟩))),
   o 3 (.mv (.const (.int .i64 0)))])
 (.seq (.region [o 4 (.alloc [(.string ⟨#[]⟩)]),
   ⟨none, none, 0, .store 1 (t 4) (.const (.string ⟨#[]⟩))⟩])
 (.seq (.region [o 6 (.mv (t 0)),
   o 7 (.mkFunc (.func 192) [] [(t 4)]),
   o 8 (.call 128 [(t 6), (t 7)]),
   o 5 (.mv (t 8))])
 (.seq (.region [o 9 (.load false 1 (t 4)),
   o 10 (.mv (t 5)),
   o 2 (.mv (t 9)),
   o 3 (.mv (t 10))])
 .ret))))⟩
theorem c152 : compFn Go.Proofs.Tryz.prog Go.Proofs.Tryz.f152 = some a152 := by kernel_rfl
def a153 : AFunc := ⟨30, [.tmp 4],
 (.seq (.region [o 4 (.mv (.const (.int .i64 0)))])
 (.seq (.seq (.region [o 6 (.mv (t 0)),
   o 7 (.lenSl (t 6)),
   o 8 (.mv (t 1)),
   o 9 (.lenSl (t 8)),
   o 10 (.min [(t 7), (t 9)]),
   o 11 (.mv (.const (.int .i64 0)))])
 (.block 0
  (.loop
   (.seq (.region [o 12 (.bin .lss (t 11) (t 10))])
   (.seq (.cond (t 12)
    .skip
    (.exit 0))
   (.seq (.block 1
    (.seq (.region [o 13 (.mv (t 11)),
      o 5 (.mv (t 13))])
    (.seq (.draw [o 14 (.mv (t 0)),
      o 15 (.mv (t 5)),
      ⟨(some 16), none, 3, .indexSl 3 (t 14) (t 15)⟩,
      ⟨(some 17), none, 7, .load true 3 (t 16)⟩,
      o 18 (.mv (t 1)),
      o 19 (.mv (t 5)),
      ⟨(some 20), none, 48, .indexSl 3 (t 18) (t 19)⟩,
      ⟨(some 21), none, 112, .load true 3 (t 20)⟩,
      ⟨(some 22), none, 255, .eqAgg true [(0, .int), (1, .int), (2, .str)] (t 17) (t 21)⟩])
    (.cond (t 22)
     (.seq (.region [o 23 (.mv (t 5)),
       o 4 (.mv (t 23))])
     .ret)
     .skip))))
   (.region [o 24 (.bin .add (t 11) (.const (.int .i64 1))),
     o 11 (.mv (t 24))])))))))
 (.seq (.region [o 25 (.mv (t 0)),
   o 26 (.lenSl (t 25)),
   o 27 (.mv (t 1)),
   o 28 (.lenSl (t 27)),
   o 29 (.min [(t 26), (t 28)]),
   o 4 (.mv (t 29))])
 .ret)))⟩
theorem c153 : compFn Go.Proofs.Tryz.prog Go.Proofs.Tryz.f153 = some a153 := by kernel_rfl
def a154 : AFunc := ⟨42, [.tmp 6],
 (.seq (.region [o 6 (.mv (.const (.int .i64 0)))])
 (.seq (.block 0
  (.seq (.region [o 10 (.mv (t 0)),
    o 11 (.nilCheck (t 10)),
    o 12 (.fieldAddr 3 (t 11)),
    o 13 (.load false 1 (t 12)),
    o 9 (.mv (t 13))])
  (.cond (t 9)
   (.seq (.region [o 6 (.mv (.const (.int .i64 41)))])
   .ret)
   (.seq (.draw [o 15 (.mv (t 2)),
     ⟨(some 16), none, 1, .lenStr (t 15)⟩,
     o 17 (.mv (t 0)),
     ⟨(some 18), none, 4, .nilCheck (t 17)⟩,
     ⟨(some 19), none, 12, .fieldAddr 0 (t 18)⟩,
     ⟨(some 20), none, 28, .load false 1 (t 19)⟩,
     o 21 (.mv (t 0)),
     ⟨(some 22), none, 64, .nilCheck (t 21)⟩,
     ⟨(some 23), none, 192, .fieldAddr 1 (t 22)⟩,
     ⟨(some 24), none, 448, .load false 1 (t 23)⟩,
     ⟨(some 25), none, 1020, .bin .sub (t 20) (t 24)⟩,
     ⟨(some 26), none, 2047, .bin .gtr (t 16) (t 25)⟩,
     ⟨(some 14), none, 4095, .mv (t 26)⟩])
   (.cond (t 14)
    (.seq (.region [o 6 (.mv (.const (.int .i64 40)))])
    .ret)
    .skip)))))
 (.seq (.region [o 27 (.mv (t 0)),
   o 28 (.call 95 [(t 27)]),
   o 7 (.mv (t 28))])
 (.seq (.region [o 29 (.mv (t 0)),
   o 30 (.mv (t 1)),
   o 31 (.call 96 [(t 29), (t 30)]),
   o 8 (.mv (t 31))])
 (.seq (.region [o 32 (.mv (t 0)),
   o 33 (.mv (t 8)),
   o 34 (.mv (t 8)),
   o 35 (.nilCheck (t 34)),
   o 36 (.fieldAddr 0 (t 35)),
   o 37 (.load false 1 (t 36)),
   o 38 (.mv (t 2)),
   o 39 (.bin .add (t 37) (t 38)),
   o 40 (.call 56 [(t 32), (t 33), (t 39)])])
 (.seq (.seq (.region [o 41 (.mv (t 7))])
 (.cond (t 41)
  (.seq (.region [o 6 (.mv (.const (.int .i64 41)))])
  .ret)
  .skip))
 (.seq (.region [o 6 (.mv (.const (.int .i64 0)))])
 .ret)))))))⟩
theorem c154 : compFn Go.Proofs.Tryz.prog Go.Proofs.Tryz.f154 = some a154 := by kernel_rfl
def a155 : AFunc := ⟨8, [.tmp 4],
 (.seq (.region [o 4 (.mv (.const (.int .i64 0)))])
 (.seq (.region [o 5 (.mv (t 0)),
   o 6 (.mv (t 1)),
   o 7 (.call 139 [(t 5), (t 6), (.const (.func (.func 140) #[] #[])), (.const (.func (.func 193) #[] #[]))]),
   o 4 (.mv (t 7))])
 .ret))⟩
theorem c155 : compFn Go.Proofs.Tryz.prog Go.Proofs.Tryz.f155 = some a155 := by kernel_rfl
def a156 : AFunc := ⟨36, [.tmp 2],
 (.seq (.region [o 2 (.mv (.const (.slice none 0 0)))])
 (.seq (.region [o 3 (.mv (.const (.int .i64 0)))])
 (.seq (.seq (.region [o 9 (.mv (t 0)),
   o 10 (.lenSl (t 9)),
   o 11 (.mv (.const (.int .i64 0)))])
 (.block 0
  (.loop
   (.seq (.region [o 12 (.bin .lss (t 11) (t 10))])
   (.seq (.cond (t 12)
    .skip
    (.exit 0))
   (.seq (.block 1
    (.seq (.region [o 13 (.indexSl 1 (t 9) (t 11)),
      o 14 (.load false 1 (t 13)),
      o 5 (.mv (t 14))])
    (.seq (.region [o 15 (.mv (t 3)),
      o 16 (.mv (t 5)),
      o 17 (.lenSl (t 16)),
      o 18 (.bin .add (t 15) (t 17)),
      o 3 (.mv (t 18))])
    (.seq (.region [o 19 (.mv (t 3)),
      o 20 (.bin .lss (t 19) (.const (.int .i64 0)))])
    (.cond (t 20)
     (.region [o 21 (.mkIface 9 (.const (.string ⟨#[108, 101, 110, 32, 111, 117, 116, 32, 111, 102, 32, 114, 97, 110, 103, 101]⟩))),
       ⟨none, none, 0, .fail⟩])
     .skip)))))
   (.region [o 22 (.bin .add (t 11) (.const (.int .i64 1))),
     o 11 (.mv (t 22))])))))))
 (.seq (.region [o 23 (.mv (t 3)),
   o 24 (.call 194 [(.const (.slice none 0 0)), (t 23)]),
   o 6 (.mv (t 24))])
 (.seq (.seq (.region [o 25 (.mv (t 0)),
   o 26 (.lenSl (t 25)),
   o 27 (.mv (.const (.int .i64 0)))])
 (.block 2
  (.loop
   (.seq (.region [o 28 (.bin .lss (t 27) (t 26))])
   (.seq (.cond (t 28)
    .skip
    (.exit 2))
   (.seq (.block 3
    (.seq (.region [o 29 (.indexSl 1 (t 25) (t 27)),
      o 30 (.load false 1 (t 29)),
      o 8 (.mv (t 30))])
    (.region [o 31 (.mv (t 6)),
      o 32 (.mv (t 8)),
      o 33 (.append 3 32 [(.int .i64 0), (.int .i64 0), (.string ⟨#[]⟩)] (t 31) (t 32)),
      o 6 (.mv (t 33))])))
   (.region [o 34 (.bin .add (t 27) (.const (.int .i64 1))),
     o 27 (.mv (t 34))])))))))
 (.seq (.region [o 35 (.mv (t 6)),
   o 2 (.mv (t 35))])
 .ret))))))⟩
theorem c156 : compFn Go.Proofs.Tryz.prog Go.Proofs.Tryz.f156 = some a156 := by kernel_rfl
end Go.Am.R1
