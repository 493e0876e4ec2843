/-
  The functions of the program that are reached, compiled for the abstract machine. Written by program.
-/
import Derived.Test.YtdmijaofelgonaaGreatDoorAmO
import Derived.KernelRfl
import Derived.Test.YtdmijaofelgonaaGreatDoorProg
import Derived.Test.YtdmijaofelgonaaGreatDoorRaF0
import Derived.Test.YtdmijaofelgonaaGreatDoorRaF1
set_option maxRecDepth 100000
namespace Go.Am.R1
open Go Go.Am
def a157 : AFunc := ⟨23, [.tmp 2],
 (.seq (.region [o 1 (.box (t 0)),
   o 2 (.mv (.const (.bool false)))])
 (.seq (.region [o 3 (.fieldAddr 0 (t 1)),
   o 4 (.load false 1 (t 3)),
   o 5 (.fieldAddr 1 (t 1)),
   o 6 (.load false 1 (t 5)),
   o 7 (.min [(t 4), (t 6)]),
   o 8 (.bin .geq (t 7) (.const (.int .i64 1))),
   o 9 (.mv (t 8)),
   ⟨(some 10), (some (9, true)), 0, .fieldAddr 0 (t 1)⟩,
   ⟨(some 11), (some (9, true)), 0, .load false 1 (t 10)⟩,
   ⟨(some 12), (some (9, true)), 0, .fieldAddr 1 (t 1)⟩,
   ⟨(some 13), (some (9, true)), 0, .load false 1 (t 12)⟩,
   ⟨(some 14), (some (9, true)), 0, .max [(t 11), (t 13)]⟩,
   ⟨(some 15), (some (9, true)), 0, .bin .leq (t 14) (.const (.int .i64 2147483647))⟩,
   o 16 (.pick (t 9) (t 15) (.const (.bool false))),
   o 17 (.mv (t 16)),
   ⟨(some 18), (some (17, true)), 0, .fieldAddr 2 (t 1)⟩,
   ⟨(some 19), (some (17, true)), 0, .load false 1 (t 18)⟩,
   ⟨(some 20), (some (17, true)), 0, .lenStr (t 19)⟩,
   ⟨(some 21), (some (17, true)), 0, .bin .leq (t 20) (.const (.int .i64 256))⟩,
   o 22 (.pick (t 17) (t 21) (.const (.bool false))),
   o 2 (.mv (t 22))])
 .ret))⟩
theorem c157 : compFn Go.Proofs.Tryz.prog Go.Proofs.Tryz.f157 = some a157 := by kernel_rfl
def a158 : AFunc := ⟨10, [.tmp 6],
 (.seq (.region [o 4 (.box (t 1)),
   o 5 (.box (t 2)),
   o 6 (.mv (.const (.int .i64 0)))])
 (.seq (.region [o 7 (.mv (t 0)),
   o 8 (.mkFunc (.func 196) [] [(t 4), (t 5)]),
   o 9 (.call 195 [(t 7), (t 8)]),
   o 6 (.mv (t 9))])
 .ret))⟩
theorem c158 : compFn Go.Proofs.Tryz.prog Go.Proofs.Tryz.f158 = some a158 := by kernel_rfl
def a159 : AFunc := ⟨49, [],
 (.seq (.region [o 8 (.mv (t 1)),
   o 9 (.bin .add (t 8) (.const (.int .i64 1))),
   o 6 (.mv (t 9))])
 (.block 0
  (.loop
   (.seq (.seq (.region [o 10 (.mv (t 6)),
     o 11 (.mv (t 2)),
     o 12 (.bin .lss (t 10) (t 11))])
   (.cond (t 12)
    .skip
    (.exit 0)))
   (.seq (.block 1
    (.seq (.region [o 15 (.mv (t 6)),
      o 7 (.mv (t 15))])
    (.block 2
     (.loop
      (.seq (.seq (.draw [o 16 (.mv (t 7)),
        o 17 (.mv (t 1)),
        ⟨(some 18), none, 3, .bin .gtr (t 16) (t 17)⟩,
        ⟨(some 19), none, 7, .mv (t 18)⟩,
        ⟨(some 20), (some (19, true)), 15, .mv (t 0)⟩,
        ⟨(some 21), (some (19, true)), 15, .mv (t 7)⟩,
        ⟨(some 22), (some (19, true)), 63, .indexSl 1 (t 20) (t 21)⟩,
        ⟨(some 23), (some (19, true)), 127, .load false 1 (t 22)⟩,
        ⟨(some 24), (some (19, true)), 15, .mv (t 0)⟩,
        ⟨(some 25), (some (19, true)), 15, .mv (t 7)⟩,
        ⟨(some 26), (some (19, true)), 527, .bin .sub (t 25) (.const (.int .i64 1))⟩,
        ⟨(some 27), (some (19, true)), 1807, .indexSl 1 (t 24) (t 26)⟩,
        ⟨(some 28), (some (19, true)), 3855, .load false 1 (t 27)⟩,
        ⟨(some 29), (some (19, true)), 8191, .call 165 [(t 23), (t 28)]⟩,
        ⟨(some 30), none, 16383, .pick (t 19) (t 29) (.const (.bool false))⟩])
      (.cond (t 30)
       .skip
       (.exit 2)))
      (.seq (.block 3
       (.draw [o 33 (.mv (t 0)),
         o 34 (.mv (t 7)),
         o 35 (.mv (t 0)),
         o 36 (.mv (t 7)),
         ⟨(some 37), none, 8, .bin .sub (t 36) (.const (.int .i64 1))⟩,
         o 38 (.mv (t 0)),
         o 39 (.mv (t 7)),
         ⟨(some 40), none, 64, .bin .sub (t 39) (.const (.int .i64 1))⟩,
         ⟨(some 41), none, 224, .indexSl 1 (t 38) (t 40)⟩,
         ⟨(some 42), none, 480, .load false 1 (t 41)⟩,
         o 43 (.mv (t 0)),
         o 44 (.mv (t 7)),
         ⟨(some 45), none, 3072, .indexSl 1 (t 43) (t 44)⟩,
         ⟨(some 46), none, 7168, .load false 1 (t 45)⟩,
         ⟨(some 47), none, 16355, .indexSl 1 (t 33) (t 34)⟩,
         ⟨none, none, 32739, .store 1 (t 47) (t 42)⟩,
         ⟨(some 48), none, 65535, .indexSl 1 (t 35) (t 37)⟩,
         ⟨none, none, 131071, .store 1 (t 48) (t 46)⟩]))
      (.region [o 31 (.mv (t 7)),
        o 32 (.bin .sub (t 31) (.const (.int .i64 1))),
        o 7 (.mv (t 32))])))))))
   (.region [o 13 (.mv (t 6)),
     o 14 (.bin .add (t 13) (.const (.int .i64 1))),
     o 6 (.mv (t 14))]))))))⟩
theorem c159 : compFn Go.Proofs.Tryz.prog Go.Proofs.Tryz.f159 = some a159 := by kernel_rfl
def a165 : AFunc := ⟨17, [.tmp 4],
 (.seq (.region [o 4 (.mv (.const (.bool false)))])
 (.seq (.region [o 5 (.mv (t 0)),
   o 6 (.call 202 [(t 5)]),
   o 7 (.mv (t 6)),
   ⟨(some 8), (some (7, true)), 0, .mv (t 1)⟩,
   ⟨(some 9), (some (7, true)), 0, .call 202 [(t 8)]⟩,
   ⟨(some 10), (some (7, true)), 0, .un .not (t 9)⟩,
   o 11 (.pick (t 7) (t 10) (.const (.bool false))),
   o 12 (.mv (t 11)),
   ⟨(some 13), (some (12, false)), 0, .mv (t 0)⟩,
   ⟨(some 14), (some (12, false)), 0, .mv (t 1)⟩,
   ⟨(some 15), (some (12, false)), 0, .bin .lss (t 13) (t 14)⟩,
   o 16 (.pick (t 12) (.const (.bool true)) (t 15)),
   o 4 (.mv (t 16))])
 .ret))⟩
theorem c165 : compFn Go.Proofs.Tryz.prog Go.Proofs.Tryz.f165 = some a165 := by kernel_rfl
def a169 : AFunc := ⟨25, [.tmp 2],
 (.seq (.region [o 2 (.mv (.const (.int .i64 0)))])
 (.seq (.seq (.region [o 3 (.mv (t 0)),
   o 4 (.bin .geq (t 3) (.const (.int .u64 4294967296)))])
 (.cond (t 4)
  (.seq (.region [o 5 (.mv (t 0)),
    o 6 (.bin .shr (t 5) (.const (.int .u64 32))),
    o 0 (.mv (t 6))])
  (.region [o 2 (.mv (.const (.int .i64 32)))]))
  .skip))
 (.seq (.seq (.region [o 7 (.mv (t 0)),
   o 8 (.bin .geq (t 7) (.const (.int .u64 65536)))])
 (.cond (t 8)
  (.seq (.region [o 9 (.mv (t 0)),
    o 10 (.bin .shr (t 9) (.const (.int .u64 16))),
    o 0 (.mv (t 10))])
  (.region [o 11 (.mv (t 2)),
    o 12 (.bin .add (t 11) (.const (.int .i64 16))),
    o 2 (.mv (t 12))]))
  .skip))
 (.seq (.seq (.region [o 13 (.mv (t 0)),
   o 14 (.bin .geq (t 13) (.const (.int .u64 256)))])
 (.cond (t 14)
  (.seq (.region [o 15 (.mv (t 0)),
    o 16 (.bin .shr (t 15) (.const (.int .u64 8))),
    o 0 (.mv (t 16))])
  (.region [o 17 (.mv (t 2)),
    o 18 (.bin .add (t 17) (.const (.int .i64 8))),
    o 2 (.mv (t 18))]))
  .skip))
 (.seq (.region [o 19 (.mv (t 2)),
   o 20 (.mv (t 0)),
   o 21 (.toInt .u8 (t 20)),
   o 22 (.indexStr (.const (.string ⟨#[0, 1, 2, 2, 3, 3, 3, 3, 4, 4, 4, 4, 4, 4, 4, 4, 5, 5, 5, 5, 5, 5, 5, 5, 5, 5, 5, 5, 5, 5, 5, 5, 6, 6, 6, 6, 6, 6, 6, 6, 6, 6, 6, 6, 6, 6, 6, 6, 6, 6, 6, 6, 6, 6, 6, 6, 6, 6, 6, 6, 6, 6, 6, 6, 7, 7, 7, 7, 7, 7, 7, 7, 7, 7, 7, 7, 7, 7, 7, 7, 7, 7, 7, 7, 7, 7, 7, 7, 7, 7, 7, 7, 7, 7, 7, 7, 7, 7, 7, 7, 7, 7, 7, 7, 7, 7, 7, 7, 7, 7, 7, 7, 7, 7, 7, 7, 7, 7, 7, 7, 7, 7, 7, 7, 7, 7, 7, 7, 8, 8, 8, 8, 8, 8, 8, 8, 8, 8, 8, 8, 8, 8, 8, 8, 8, 8, 8, 8, 8, 8, 8, 8, 8, 8, 8, 8, 8, 8, 8, 8, 8, 8, 8, 8, 8, 8, 8, 8, 8, 8, 8, 8, 8, 8, 8, 8, 8, 8, 8, 8, 8, 8, 8, 8, 8, 8, 8, 8, 8, 8, 8, 8, 8, 8, 8, 8, 8, 8, 8, 8, 8, 8, 8, 8, 8, 8, 8, 8, 8, 8, 8, 8, 8, 8, 8, 8, 8, 8, 8, 8, 8, 8, 8, 8, 8, 8, 8, 8, 8, 8, 8, 8, 8, 8, 8, 8, 8, 8, 8, 8, 8, 8, 8, 8, 8, 8, 8, 8, 8, 8, 8, 8, 8, 8, 8, 8]⟩)) (t 21)),
   o 23 (.toInt .i64 (t 22)),
   o 24 (.bin .add (t 19) (t 23)),
   o 2 (.mv (t 24))])
 .ret)))))⟩
theorem c169 : compFn Go.Proofs.Tryz.prog Go.Proofs.Tryz.f169 = some a169 := by kernel_rfl
def a170 : AFunc := ⟨9, [.tmp 4],
 (.seq (.region [o 4 (.mv (.const (.bool false)))])
 (.seq (.region [o 5 (.mv (t 0)),
   o 6 (.mv (t 1)),
   o 7 (.call 195 [(t 5), (t 6)]),
   o 8 (.bin .geq (t 7) (.const (.int .i64 0))),
   o 4 (.mv (t 8))])
 .ret))⟩
theorem c170 : compFn Go.Proofs.Tryz.prog Go.Proofs.Tryz.f170 = some a170 := by kernel_rfl
def a171 : AFunc := ⟨6, [.tmp 2],
 (.seq (.region [o 1 (.box (t 0)),
   o 2 (.mv (.const (.bool false)))])
 (.seq (.region [o 3 (.load true 3 (t 1)),
   o 4 (.call 157 [(t 3)]),
   o 5 (.un .not (t 4)),
   o 2 (.mv (t 5))])
 .ret))⟩
theorem c171 : compFn Go.Proofs.Tryz.prog Go.Proofs.Tryz.f171 = some a171 := by kernel_rfl
def a172 : AFunc := ⟨19, [.tmp 2, .tmp 3],
 (.seq (.region [o 1 (.box (t 0)),
   o 2 (.mv (.const (.string ⟨#[]⟩))),
   o 3 (.mv (.const (.int .i64 0)))])
 (.seq (.seq (.region [o 4 (.load true 3 (t 1)),
   o 5 (.call 157 [(t 4)]),
   o 6 (.un .not (t 5))])
 (.cond (t 6)
  (.seq (.region [o 2 (.mv (.const (.string ⟨#[]⟩))),
    o 3 (.mv (.const (.int .i64 170)))])
  .ret)
  .skip))
 (.seq (.draw [o 7 (.fieldAddr 0 (t 1)),
   ⟨(some 8), none, 1, .load false 1 (t 7)⟩,
   ⟨(some 9), none, 3, .toInt .u64 (t 8)⟩,
   o 10 (.fieldAddr 1 (t 1)),
   ⟨(some 11), none, 8, .load false 1 (t 10)⟩,
   ⟨(some 12), none, 24, .toInt .u64 (t 11)⟩,
   ⟨(some 13), none, 63, .buildSlice 1 2 [(.int .u64 0), (.int .u64 0)] [(0, 1, (t 9)), (1, 1, (t 12))]⟩,
   ⟨(some 14), none, 127, .call 31 [(.const (.string ⟨#[]⟩)), (t 13)]⟩,
   o 15 (.fieldAddr 2 (t 1)),
   ⟨(some 16), none, 256, .load false 1 (t 15)⟩,
   ⟨(some 17), none, 768, .buildSlice 1 1 [(.string ⟨#[]⟩)] [(0, 1, (t 16))]⟩,
   ⟨(some 18), none, 2047, .call 130 [(t 14), (t 17)]⟩,
   ⟨(some 2), none, 4095, .mv (t 18)⟩,
   ⟨(some 3), none, 8191, .mv (.const (.int .i64 0))⟩])
 .ret)))⟩
theorem c172 : compFn Go.Proofs.Tryz.prog Go.Proofs.Tryz.f172 = some a172 := by kernel_rfl
def a173 : AFunc := ⟨25, [.tmp 6],
 (.seq (.region [o 6 (.mv (.const (.string ⟨#[]⟩)))])
 (.seq (.region [o 10 (.mv (t 0)),
   o 11 (.strToBytes (t 10)),
   o 7 (.mv (t 11))])
 (.seq (.seq (.region [o 12 (.mv (t 1)),
   o 13 (.lenSl (t 12)),
   o 14 (.mv (.const (.int .i64 0)))])
 (.block 0
  (.loop
   (.seq (.region [o 15 (.bin .lss (t 14) (t 13))])
   (.seq (.cond (t 15)
    .skip
    (.exit 0))
   (.seq (.block 1
    (.seq (.region [o 16 (.indexSl 1 (t 12) (t 14)),
      o 17 (.load false 1 (t 16)),
      o 9 (.mv (t 17))])
    (.region [o 18 (.mv (t 2)),
      o 19 (.mv (t 7)),
      o 20 (.mv (t 9)),
      o 21 (.callV (t 18) [(t 19), (t 20)]),
      o 7 (.mv (t 21))])))
   (.region [o 22 (.bin .add (t 14) (.const (.int .i64 1))),
     o 14 (.mv (t 22))])))))))
 (.seq (.region [o 23 (.mv (t 7)),
   o 24 (.bytesToStr (t 23)),
   o 6 (.mv (t 24))])
 .ret))))⟩
theorem c173 : compFn Go.Proofs.Tryz.prog Go.Proofs.Tryz.f173 = some a173 := by kernel_rfl
def a174 : AFunc := ⟨12, [.tmp 4],
 (.seq (.region [o 4 (.mv (.const (.slice none 0 0)))])
 (.seq (.region [o 5 (.mv (t 0)),
   o 6 (.mv (t 1)),
   o 7 (.lenStr (t 6)),
   o 8 (.toInt .u64 (t 7)),
   o 9 (.call 65 [(t 5), (t 8)]),
   o 10 (.mv (t 1)),
   o 11 (.append 1 1 [(.int .u8 0)] (t 9) (t 10)),
   o 4 (.mv (t 11))])
 .ret))⟩
theorem c174 : compFn Go.Proofs.Tryz.prog Go.Proofs.Tryz.f174 = some a174 := by kernel_rfl
def a177 : AFunc := ⟨18, [.tmp 4],
 (.seq (.region [o 4 (.mv (.const (.bool false)))])
 (.seq (.region [o 5 (.mv (t 0)),
   o 6 (.lenStr (t 5)),
   o 7 (.mv (t 1)),
   o 8 (.lenStr (t 7)),
   o 9 (.bin .geq (t 6) (t 8)),
   o 10 (.mv (t 9)),
   ⟨(some 11), (some (10, true)), 0, .mv (t 0)⟩,
   ⟨(some 12), (some (10, true)), 0, .mv (t 1)⟩,
   ⟨(some 13), (some (10, true)), 0, .lenStr (t 12)⟩,
   ⟨(some 14), (some (10, true)), 0, .sliceStr (t 11) none (some (t 13))⟩,
   ⟨(some 15), (some (10, true)), 0, .mv (t 1)⟩,
   ⟨(some 16), (some (10, true)), 0, .bin .eql (t 14) (t 15)⟩,
   o 17 (.pick (t 10) (t 16) (.const (.bool false))),
   o 4 (.mv (t 17))])
 .ret))⟩
theorem c177 : compFn Go.Proofs.Tryz.prog Go.Proofs.Tryz.f177 = some a177 := by kernel_rfl
def a178 : AFunc := ⟨5, [.tmp 2],
 (.seq (.region [o 2 (.mv (.const (.int .u8 0)))])
 (.seq (.region [o 3 (.mv (t 0)),
   o 4 (.bin .or (t 3) (.const (.int .u8 32))),
   o 2 (.mv (t 4))])
 .ret))⟩
theorem c178 : compFn Go.Proofs.Tryz.prog Go.Proofs.Tryz.f178 = some a178 := by kernel_rfl
def a180 : AFunc := ⟨11, [.tmp 4],
 (.seq (.region [o 4 (.mv (.const (.pointer none)))])
 (.seq (.draw [o 5 (.mv (t 0)),
   o 6 (.mv (t 1)),
   ⟨(some 7), none, 2, .call 212 [(t 6)]⟩,
   o 8 (.load false 1 (.const (.pointer (some ⟨0, 0, some 1⟩)))),
   ⟨(some 9), none, 15, .build [(.string ⟨#[]⟩), (.string ⟨#[]⟩), .nilIface] [(0, 1, (t 5)), (1, 1, (t 7)), (2, 1, (t 8))]⟩,
   ⟨(some 10), none, 31, .box (t 9)⟩,
   ⟨(some 4), none, 63, .mv (t 10)⟩])
 .ret))⟩
theorem c180 : compFn Go.Proofs.Tryz.prog Go.Proofs.Tryz.f180 = some a180 := by kernel_rfl
def a184 : AFunc := ⟨5, [.tmp 2],
 (.seq (.region [o 2 (.mv (.const (.string ⟨#[]⟩)))])
 (.seq (.region [o 3 (.mv (t 0)),
   o 4 (.call 214 [(t 3), (.const (.int .i64 10))]),
   o 2 (.mv (t 4))])
 .ret))⟩
theorem c184 : compFn Go.Proofs.Tryz.prog Go.Proofs.Tryz.f184 = some a184 := by kernel_rfl
def a186 : AFunc := ⟨8, [.tmp 2],
 (.seq (.region [o 2 (.mv (.const (.int .u32 0)))])
 (.seq (.region [o 4 (.call 215 []),
   o 3 (.alloc [(.int .u32 0), (.int .u32 0), (.int .u32 0), (.int .u32 0), (.int .u32 0), (.int .u32 0), (.int .u32 0), (.int .u32 0), (.int .u32 0), (.int .u32 0), (.int .u32 0), (.int .u32 0), (.int .u32 0), (.int .u32 0), (.int .u32 0), (.int .u32 0)]),
   ⟨none, none, 0, .store 16 (t 3) (t 4)⟩])
 (.seq (.region [o 5 (.mv (t 0)),
   o 6 (.call 216 [(t 3), (.const (.int .u32 4294967295)), (t 5)]),
   o 7 (.un .xor (t 6)),
   o 2 (.mv (t 7))])
 .ret)))⟩
theorem c186 : compFn Go.Proofs.Tryz.prog Go.Proofs.Tryz.f186 = some a186 := by kernel_rfl
def a187 : AFunc := ⟨8, [.tmp 2],
 (.seq (.region [o 2 (.mv (.const (.slice none 0 0)))])
 (.seq (.seq (.region [o 3 (.mv (t 0)),
   o 4 (.eqNil .sl false (t 3) (.const (.slice none 0 0)))])
 (.cond (t 4)
  (.seq (.region [o 2 (.mv (.const (.slice none 0 0)))])
  .ret)
  .skip))
 (.seq (.region [o 5 (.buildSlice 1 0 [] []),
   o 6 (.mv (t 0)),
   o 7 (.append 1 8 [(.int .i64 0)] (t 5) (t 6)),
   o 2 (.mv (t 7))])
 .ret)))⟩
theorem c187 : compFn Go.Proofs.Tryz.prog Go.Proofs.Tryz.f187 = some a187 := by kernel_rfl
def a188 : AFunc := ⟨61, [.tmp 2],
 (.seq (.region [o 2 (.mv (.const (.slice none 0 0)))])
 (.seq (.seq (.region [o 6 (.mv (t 0)),
   o 7 (.lenSl (t 6)),
   o 8 (.bin .lss (t 7) (.const (.int .i64 2)))])
 (.cond (t 8)
  (.seq (.region [o 9 (.mv (t 0)),
    o 2 (.mv (t 9))])
  .ret)
  .skip))
 (.seq (.seq (.region [o 3 (.mv (.const (.int .i64 1)))])
 (.block 0
  (.loop
   (.seq (.seq (.region [o 10 (.mv (t 3)),
     o 11 (.mv (t 0)),
     o 12 (.lenSl (t 11)),
     o 13 (.bin .lss (t 10) (t 12))])
   (.cond (t 13)
    .skip
    (.exit 0)))
   (.seq (.block 1
    (.seq (.draw [o 16 (.mv (t 0)),
      o 17 (.mv (t 3)),
      ⟨(some 18), none, 3, .indexSl 1 (t 16) (t 17)⟩,
      ⟨(some 19), none, 7, .load false 1 (t 18)⟩,
      o 20 (.mv (t 0)),
      o 21 (.mv (t 3)),
      ⟨(some 22), none, 32, .bin .sub (t 21) (.const (.int .i64 1))⟩,
      ⟨(some 23), none, 112, .indexSl 1 (t 20) (t 22)⟩,
      ⟨(some 24), none, 240, .load false 1 (t 23)⟩,
      ⟨(some 25), none, 511, .bin .eql (t 19) (t 24)⟩])
    (.cond (t 25)
     (.seq (.region [o 26 (.mv (t 0)),
       o 27 (.mv (t 3)),
       o 28 (.sliceSl 1 (t 26) (some (t 27)) none none),
       o 4 (.mv (t 28))])
     (.seq (.seq (.region [o 5 (.mv (.const (.int .i64 1)))])
     (.block 2
      (.loop
       (.seq (.seq (.region [o 29 (.mv (t 5)),
         o 30 (.mv (t 4)),
         o 31 (.lenSl (t 30)),
         o 32 (.bin .lss (t 29) (t 31))])
       (.cond (t 32)
        .skip
        (.exit 2)))
       (.seq (.block 3
        (.seq (.draw [o 35 (.mv (t 4)),
          o 36 (.mv (t 5)),
          ⟨(some 37), none, 3, .indexSl 1 (t 35) (t 36)⟩,
          ⟨(some 38), none, 7, .load false 1 (t 37)⟩,
          o 39 (.mv (t 4)),
          o 40 (.mv (t 5)),
          ⟨(some 41), none, 32, .bin .sub (t 40) (.const (.int .i64 1))⟩,
          ⟨(some 42), none, 112, .indexSl 1 (t 39) (t 41)⟩,
          ⟨(some 43), none, 240, .load false 1 (t 42)⟩,
          ⟨(some 44), none, 511, .bin .neq (t 38) (t 43)⟩])
        (.cond (t 44)
         (.seq (.region [o 45 (.mv (t 0)),
           o 46 (.mv (t 3)),
           o 47 (.mv (t 4)),
           o 48 (.mv (t 5)),
           o 49 (.indexSl 1 (t 47) (t 48)),
           o 50 (.load false 1 (t 49)),
           o 51 (.indexSl 1 (t 45) (t 46)),
           ⟨none, none, 0, .store 1 (t 51) (t 50)⟩])
         (.region [o 52 (.mv (t 3)),
           o 53 (.bin .add (t 52) (.const (.int .i64 1))),
           o 3 (.mv (t 53))]))
         .skip)))
       (.region [o 33 (.mv (t 5)),
         o 34 (.bin .add (t 33) (.const (.int .i64 1))),
         o 5 (.mv (t 34))]))))))
     (.seq (.region [o 54 (.mv (t 0)),
       o 55 (.mv (t 3)),
       o 56 (.sliceSl 1 (t 54) (some (t 55)) none none),
       ⟨none, none, 0, .clearSl 1 [(.int .i64 0)] (t 56)⟩])
     (.seq (.region [o 57 (.mv (t 0)),
       o 58 (.mv (t 3)),
       o 59 (.sliceSl 1 (t 57) none (some (t 58)) none),
       o 2 (.mv (t 59))])
     .ret))))
     .skip)))
   (.region [o 14 (.mv (t 3)),
     o 15 (.bin .add (t 14) (.const (.int .i64 1))),
     o 3 (.mv (t 15))]))))))
 (.seq (.region [o 60 (.mv (t 0)),
   o 2 (.mv (t 60))])
 .ret))))⟩
theorem c188 : compFn Go.Proofs.Tryz.prog Go.Proofs.Tryz.f188 = some a188 := by kernel_rfl
def a189 : AFunc := ⟨19, [.tmp 4],
 (.seq (.region [o 4 (.mv (.const (.int .i64 0)))])
 (.seq (.seq (.region [o 6 (.mv (t 0)),
   o 7 (.lenSl (t 6)),
   o 8 (.mv (.const (.int .i64 0)))])
 (.block 0
  (.loop
   (.seq (.region [o 9 (.bin .lss (t 8) (t 7))])
   (.seq (.cond (t 9)
    .skip
    (.exit 0))
   (.seq (.block 1
    (.seq (.region [o 10 (.mv (t 8)),
      o 5 (.mv (t 10))])
    (.seq (.region [o 11 (.mv (t 1)),
      o 12 (.mv (t 0)),
      o 13 (.mv (t 5)),
      o 14 (.indexSl 3 (t 12) (t 13)),
      o 15 (.load true 3 (t 14)),
      o 16 (.callV (t 11) [(t 15)])])
    (.cond (t 16)
     (.seq (.region [o 17 (.mv (t 5)),
       o 4 (.mv (t 17))])
     .ret)
     .skip))))
   (.region [o 18 (.bin .add (t 8) (.const (.int .i64 1))),
     o 8 (.mv (t 18))])))))))
 (.seq (.region [o 4 (.mv (.const (.int .i64 (-1))))])
 .ret)))⟩
theorem c189 : compFn Go.Proofs.Tryz.prog Go.Proofs.Tryz.f189 = some a189 := by kernel_rfl
def a190 : AFunc := ⟨33, [.tmp 4],
 (.seq (.region [o 4 (.mv (.const (.int .i64 0)))])
 (.seq (.region [o 7 (.mv (t 0)),
   o 8 (.nilCheck (t 7)),
   o 9 (.fieldAddr 1 (t 8)),
   o 10 (.load false 1 (t 9)),
   o 5 (.mv (t 10))])
 (.seq (.region [o 11 (.mv (t 0)),
   o 12 (.call 60 [(t 11)]),
   o 6 (.mv (t 12))])
 (.seq (.seq (.region [o 13 (.mv (t 0)),
   o 14 (.nilCheck (t 13)),
   o 15 (.fieldAddr 2 (t 14)),
   o 16 (.load false 1 (t 15)),
   o 17 (.bin .eql (t 16) (.const (.int .i64 0))),
   o 18 (.mv (t 17)),
   ⟨(some 19), (some (18, true)), 0, .mv (t 1)⟩,
   ⟨(some 20), (some (18, true)), 0, .bin .lss (t 19) (.const (.int .i64 0))⟩,
   ⟨(some 21), (some (18, true)), 0, .mv (t 20)⟩,
   ⟨(some 22), (some (21, false)), 0, .mv (t 6)⟩,
   ⟨(some 23), (some (21, false)), 0, .mv (t 1)⟩,
   ⟨(some 24), (some (21, false)), 0, .toInt .u64 (t 23)⟩,
   ⟨(some 25), (some (21, false)), 0, .bin .gtr (t 22) (t 24)⟩,
   ⟨(some 26), (some (18, true)), 0, .pick (t 21) (.const (.bool true)) (t 25)⟩,
   o 27 (.pick (t 18) (t 26) (.const (.bool false)))])
 (.cond (t 27)
  (.seq (.region [o 28 (.mv (t 0)),
    o 29 (.mv (t 5)),
    o 30 (.call 61 [(t 28), (t 29), (.const (.int .i64 22))])])
  (.seq (.region [o 4 (.mv (.const (.int .i64 0)))])
  .ret))
  .skip))
 (.seq (.region [o 31 (.mv (t 6)),
   o 32 (.toInt .i64 (t 31)),
   o 4 (.mv (t 32))])
 .ret)))))⟩
theorem c190 : compFn Go.Proofs.Tryz.prog Go.Proofs.Tryz.f190 = some a190 := by kernel_rfl
def a191 : AFunc := ⟨21, [.tmp 2, .tmp 3],
 (.seq (.region [o 2 (.mv (.const (.string ⟨#[]⟩))),
   o 3 (.mv (.const (.int .i64 0)))])
 (.seq (.seq (.region [o 5 (.mv (t 0)),
   o 6 (.lenStr (t 5)),
   o 7 (.bin .gtr (t 6) (.const (.int .i64 65536)))])
 (.cond (t 7)
  (.seq (.region [o 2 (.mv (.const (.string ⟨#[]⟩))),
    o 3 (.mv (.const (.int .i64 31)))])
  .ret)
  .skip))
 (.seq (.region [o 8 (.mv (t 0)),
   o 9 (.lenStr (t 8)),
   o 10 (.toInt .u32 (t 9)),
   o 11 (.call 217 [(t 10)]),
   o 4 (.mv (t 11))])
 (.seq (.region [o 12 (.mv (t 4)),
   o 13 (.mv (t 4)),
   o 14 (.mv (t 0)),
   o 15 (.bin .add (t 13) (t 14)),
   o 16 (.call 186 [(t 15)]),
   o 17 (.call 217 [(t 16)]),
   o 18 (.bin .add (t 12) (t 17)),
   o 19 (.mv (t 0)),
   o 20 (.bin .add (t 18) (t 19)),
   o 2 (.mv (t 20)),
   o 3 (.mv (.const (.int .i64 0)))])
 .ret))))⟩
theorem c191 : compFn Go.Proofs.Tryz.prog Go.Proofs.Tryz.f191 = some a191 := by kernel_rfl
def a192 : AFunc := ⟨13, [],
 (.seq (.region [o 6 (.mv (t 0)),
   o 7 (.call 191 [(t 6)]),
   o 5 (.mv (t 7)),
   o 8 (.extract 0 (t 5)),
   o 9 (.extract 1 (t 5)),
   o 3 (.mv (t 8)),
   o 4 (.mv (t 9))])
 (.region [o 10 (.load false 1 (t 1)),
   o 11 (.mv (t 3)),
   o 12 (.bin .add (t 10) (t 11)),
   ⟨none, none, 0, .store 1 (t 1) (t 12)⟩]))⟩
theorem c192 : compFn Go.Proofs.Tryz.prog Go.Proofs.Tryz.f192 = some a192 := by kernel_rfl
def a193 : AFunc := ⟨10, [],
 (.region [o 2 (.mv (t 0)),
   o 3 (.mv (t 0)),
   o 4 (.nilCheck (t 3)),
   o 5 (.fieldAddr 0 (t 4)),
   o 6 (.load false 1 (t 5)),
   o 7 (.lenStr (t 6)),
   o 8 (.nilCheck (t 2)),
   o 9 (.fieldAddr 1 (t 8)),
   ⟨none, none, 0, .store 1 (t 9) (t 7)⟩])⟩
theorem c193 : compFn Go.Proofs.Tryz.prog Go.Proofs.Tryz.f193 = some a193 := by kernel_rfl
def a194 : AFunc := ⟨27, [.tmp 4],
 (.seq (.region [o 4 (.mv (.const (.slice none 0 0)))])
 (.seq (.seq (.region [o 5 (.mv (t 1)),
   o 6 (.bin .lss (t 5) (.const (.int .i64 0)))])
 (.cond (t 6)
  (.region [o 7 (.mkIface 9 (.const (.string ⟨#[99, 97, 110, 110, 111, 116, 32, 98, 101, 32, 110, 101, 103, 97, 116, 105, 118, 101]⟩))),
    ⟨none, none, 0, .fail⟩])
  .skip))
 (.seq (.seq (.region [o 8 (.mv (t 1)),
   o 9 (.mv (t 0)),
   o 10 (.capSl (t 9)),
   o 11 (.mv (t 0)),
   o 12 (.lenSl (t 11)),
   o 13 (.bin .sub (t 10) (t 12)),
   o 14 (.bin .sub (t 8) (t 13)),
   o 1 (.mv (t 14))])
 (.seq (.region [o 15 (.mv (t 1)),
   o 16 (.bin .gtr (t 15) (.const (.int .i64 0)))])
 (.cond (t 16)
  (.region [o 17 (.mv (t 0)),
    o 18 (.mv (t 0)),
    o 19 (.capSl (t 18)),
    o 20 (.sliceSl 3 (t 17) none (some (t 19)) none),
    o 21 (.mv (t 1)),
    o 22 (.appendN 3 32 [(.int .i64 0), (.int .i64 0), (.string ⟨#[]⟩)] (t 20) (t 21)),
    o 23 (.mv (t 0)),
    o 24 (.lenSl (t 23)),
    o 25 (.sliceSl 3 (t 22) none (some (t 24)) none),
    o 0 (.mv (t 25))])
  .skip)))
 (.seq (.region [o 26 (.mv (t 0)),
   o 4 (.mv (t 26))])
 .ret))))⟩
theorem c194 : compFn Go.Proofs.Tryz.prog Go.Proofs.Tryz.f194 = some a194 := by kernel_rfl
def a195 : AFunc := ⟨19, [.tmp 4],
 (.seq (.region [o 4 (.mv (.const (.int .i64 0)))])
 (.seq (.seq (.region [o 6 (.mv (t 0)),
   o 7 (.lenSl (t 6)),
   o 8 (.mv (.const (.int .i64 0)))])
 (.block 0
  (.loop
   (.seq (.region [o 9 (.bin .lss (t 8) (t 7))])
   (.seq (.cond (t 9)
    .skip
    (.exit 0))
   (.seq (.block 1
    (.seq (.region [o 10 (.mv (t 8)),
      o 5 (.mv (t 10))])
    (.seq (.region [o 11 (.mv (t 1)),
      o 12 (.mv (t 0)),
      o 13 (.mv (t 5)),
      o 14 (.indexSl 3 (t 12) (t 13)),
      o 15 (.load true 3 (t 14)),
      o 16 (.callV (t 11) [(t 15)])])
    (.cond (t 16)
     (.seq (.region [o 17 (.mv (t 5)),
       o 4 (.mv (t 17))])
     .ret)
     .skip))))
   (.region [o 18 (.bin .add (t 8) (.const (.int .i64 1))),
     o 8 (.mv (t 18))])))))))
 (.seq (.region [o 4 (.mv (.const (.int .i64 (-1))))])
 .ret)))⟩
theorem c195 : compFn Go.Proofs.Tryz.prog Go.Proofs.Tryz.f195 = some a195 := by kernel_rfl
def a202 : AFunc := ⟨6, [.tmp 2],
 (.seq (.region [o 2 (.mv (.const (.bool false)))])
 (.seq (.region [o 3 (.mv (t 0)),
   o 4 (.mv (t 0)),
   o 5 (.bin .neq (t 3) (t 4)),
   o 2 (.mv (t 5))])
 .ret))⟩
theorem c202 : compFn Go.Proofs.Tryz.prog Go.Proofs.Tryz.f202 = some a202 := by kernel_rfl
def a214 : AFunc := ⟨54, [.tmp 4],
 (.seq (.region [o 4 (.mv (.const (.string ⟨#[]⟩)))])
 (.seq (.seq (.region [o 10 (.mv (t 1)),
   o 11 (.bin .eql (t 10) (.const (.int .i64 10)))])
 (.cond (t 11)
  (.seq (.seq (.region [o 12 (.mv (t 0)),
    o 13 (.bin .leq (.const (.int .i64 0)) (t 12)),
    o 14 (.mv (t 13)),
    ⟨(some 15), (some (14, true)), 0, .mv (t 0)⟩,
    ⟨(some 16), (some (14, true)), 0, .bin .lss (t 15) (.const (.int .i64 100))⟩,
    o 17 (.pick (t 14) (t 16) (.const (.bool false)))])
  (.cond (t 17)
   (.seq (.region [o 18 (.mv (t 0)),
     o 19 (.call 223 [(t 18)]),
     o 4 (.mv (t 19))])
   .ret)
   .skip))
  (.seq (.region [o 5 (.alloc [(.int .u8 0), (.int .u8 0), (.int .u8 0), (.int .u8 0), (.int .u8 0), (.int .u8 0), (.int .u8 0), (.int .u8 0), (.int .u8 0), (.int .u8 0), (.int .u8 0), (.int .u8 0), (.int .u8 0), (.int .u8 0), (.int .u8 0), (.int .u8 0), (.int .u8 0), (.int .u8 0), (.int .u8 0), (.int .u8 0), (.int .u8 0), (.int .u8 0), (.int .u8 0), (.int .u8 0)])])
  (.seq (.region [o 20 (.mv (t 0)),
    o 21 (.toInt .u64 (t 20)),
    o 6 (.mv (t 21))])
  (.seq (.seq (.region [o 22 (.mv (t 0)),
    o 23 (.bin .lss (t 22) (.const (.int .i64 0)))])
  (.cond (t 23)
   (.region [o 24 (.mv (t 6)),
     o 25 (.un .neg (t 24)),
     o 6 (.mv (t 25))])
   .skip))
  (.seq (.region [o 26 (.mv (t 6)),
    o 27 (.call 224 [(t 26)]),
    o 7 (.mv (t 27))])
  (.seq (.region [o 28 (.mv (t 7)),
    o 29 (.bin .add (.const (.int .i64 1)) (t 28)),
    o 30 (.sliceArr 24 1 (t 5) (some (.const (.int .i64 1))) (some (t 29))),
    o 31 (.mv (t 6)),
    o 32 (.call 225 [(t 30), (t 31)])])
  (.seq (.seq (.region [o 33 (.mv (t 0)),
    o 34 (.bin .lss (t 33) (.const (.int .i64 0)))])
  (.cond (t 34)
   (.seq (.region [o 35 (.indexArr 24 1 (t 5) (.const (.int .i64 0))),
     ⟨none, none, 0, .store 1 (t 35) (.const (.int .u8 45))⟩])
   (.seq (.region [o 36 (.mv (t 7)),
     o 37 (.bin .add (.const (.int .i64 1)) (t 36)),
     o 38 (.sliceArr 24 1 (t 5) none (some (t 37))),
     o 39 (.bytesToStr (t 38)),
     o 4 (.mv (t 39))])
   .ret))
   .skip))
  (.seq (.region [o 40 (.mv (t 7)),
    o 41 (.bin .add (.const (.int .i64 1)) (t 40)),
    o 42 (.sliceArr 24 1 (t 5) (some (.const (.int .i64 1))) (some (t 41))),
    o 43 (.bytesToStr (t 42)),
    o 4 (.mv (t 43))])
  .ret))))))))
  .skip))
 (.seq (.region [o 45 (.mv (t 0)),
   o 46 (.toInt .u64 (t 45)),
   o 47 (.mv (t 1)),
   o 48 (.mv (t 0)),
   o 49 (.bin .lss (t 48) (.const (.int .i64 0))),
   o 50 (.call 226 [(.const (.slice none 0 0)), (t 46), (t 47), (t 49), (.const (.bool false))]),
   o 44 (.mv (t 50)),
   o 51 (.extract 0 (t 44)),
   o 52 (.extract 1 (t 44)),
   o 8 (.mv (t 51)),
   o 9 (.mv (t 52))])
 (.seq (.region [o 53 (.mv (t 9)),
   o 4 (.mv (t 53))])
 .ret))))⟩
theorem c214 : compFn Go.Proofs.Tryz.prog Go.Proofs.Tryz.f214 = some a214 := by kernel_rfl
def a215 : AFunc := ⟨23, [.cell 0 true 16],
 (.seq (.region [o 0 (.alloc [(.int .u32 0), (.int .u32 0), (.int .u32 0), (.int .u32 0), (.int .u32 0), (.int .u32 0), (.int .u32 0), (.int .u32 0), (.int .u32 0), (.int .u32 0), (.int .u32 0), (.int .u32 0), (.int .u32 0), (.int .u32 0), (.int .u32 0), (.int .u32 0)])])
 (.seq (.region [o 1 (.alloc [(.int .u32 0), (.int .u32 0), (.int .u32 0), (.int .u32 0), (.int .u32 0), (.int .u32 0), (.int .u32 0), (.int .u32 0), (.int .u32 0), (.int .u32 0), (.int .u32 0), (.int .u32 0), (.int .u32 0), (.int .u32 0), (.int .u32 0), (.int .u32 0)])])
 (.seq (.seq (.region [o 4 (.mv (.const (.int .i64 0)))])
 (.block 0
  (.loop
   (.seq (.region [o 5 (.bin .lss (t 4) (.const (.int .i64 16)))])
   (.seq (.cond (t 5)
    .skip
    (.exit 0))
   (.seq (.block 1
    (.seq (.region [o 6 (.mv (t 4)),
      o 2 (.mv (t 6))])
    (.seq (.region [o 7 (.mv (t 2)),
      o 8 (.toInt .u32 (t 7)),
      o 3 (.mv (t 8))])
    (.seq (.seq (.region [o 9 (.mv (.const (.int .i64 0)))])
    (.block 2
     (.loop
      (.seq (.region [o 10 (.bin .lss (t 9) (.const (.int .i64 4)))])
      (.seq (.cond (t 10)
       .skip
       (.exit 2))
      (.seq (.block 3
       (.region [o 11 (.mv (t 3)),
         o 12 (.bin .shr (t 11) (.const (.int .u64 1))),
         o 13 (.mv (t 3)),
         o 14 (.bin .and (t 13) (.const (.int .u32 1))),
         o 15 (.bin .mul (.const (.int .u32 2197175160)) (t 14)),
         o 16 (.bin .xor (t 12) (t 15)),
         o 3 (.mv (t 16))]))
      (.region [o 17 (.bin .add (t 9) (.const (.int .i64 1))),
        o 9 (.mv (t 17))])))))))
    (.region [o 18 (.mv (t 2)),
      o 19 (.mv (t 3)),
      o 20 (.indexArr 16 1 (t 1) (t 18)),
      ⟨none, none, 0, .store 1 (t 20) (t 19)⟩])))))
   (.region [o 21 (.bin .add (t 4) (.const (.int .i64 1))),
     o 4 (.mv (t 21))])))))))
 (.seq (.region [o 22 (.load true 16 (t 1)),
   ⟨none, none, 0, .store 16 (t 0) (t 22)⟩])
 .ret))))⟩
theorem c215 : compFn Go.Proofs.Tryz.prog Go.Proofs.Tryz.f215 = some a215 := by kernel_rfl
def a216 : AFunc := ⟨39, [.tmp 6],
 (.seq (.region [o 6 (.mv (.const (.int .u32 0)))])
 (.seq (.seq (.region [o 8 (.mv (t 2)),
   o 9 (.lenStr (t 8)),
   o 10 (.mv (.const (.int .i64 0)))])
 (.block 0
  (.loop
   (.seq (.region [o 11 (.bin .lss (t 10) (t 9))])
   (.seq (.cond (t 11)
    .skip
    (.exit 0))
   (.seq (.block 1
    (.seq (.region [o 12 (.mv (t 10)),
      o 7 (.mv (t 12))])
    (.seq (.region [o 13 (.mv (t 1)),
      o 14 (.mv (t 2)),
      o 15 (.mv (t 7)),
      o 16 (.indexStr (t 14) (t 15)),
      o 17 (.toInt .u32 (t 16)),
      o 18 (.bin .xor (t 13) (t 17)),
      o 1 (.mv (t 18))])
    (.seq (.region [o 19 (.mv (t 1)),
      o 20 (.bin .shr (t 19) (.const (.int .u64 4))),
      o 21 (.mv (t 0)),
      o 22 (.mv (t 1)),
      o 23 (.bin .and (t 22) (.const (.int .u32 15))),
      o 24 (.nilCheck (t 21)),
      o 25 (.indexArr 16 1 (t 24) (t 23)),
      o 26 (.load false 1 (t 25)),
      o 27 (.bin .xor (t 20) (t 26)),
      o 1 (.mv (t 27))])
    (.region [o 28 (.mv (t 1)),
      o 29 (.bin .shr (t 28) (.const (.int .u64 4))),
      o 30 (.mv (t 0)),
      o 31 (.mv (t 1)),
      o 32 (.bin .and (t 31) (.const (.int .u32 15))),
      o 33 (.nilCheck (t 30)),
      o 34 (.indexArr 16 1 (t 33) (t 32)),
      o 35 (.load false 1 (t 34)),
      o 36 (.bin .xor (t 29) (t 35)),
      o 1 (.mv (t 36))])))))
   (.region [o 37 (.bin .add (t 10) (.const (.int .i64 1))),
     o 10 (.mv (t 37))])))))))
 (.seq (.region [o 38 (.mv (t 1)),
   o 6 (.mv (t 38))])
 .ret)))⟩
theorem c216 : compFn Go.Proofs.Tryz.prog Go.Proofs.Tryz.f216 = some a216 := by kernel_rfl
def a217 : AFunc := ⟨18, [.tmp 2],
 (.seq (.region [o 2 (.mv (.const (.string ⟨#[]⟩)))])
 (.seq (.region [o 3 (.alloc [(.int .u8 0), (.int .u8 0), (.int .u8 0), (.int .u8 0)])])
 (.seq (.seq (.region [o 5 (.mv (.const (.int .i64 0)))])
 (.block 0
  (.loop
   (.seq (.region [o 6 (.bin .lss (t 5) (.const (.int .i64 4)))])
   (.seq (.cond (t 6)
    .skip
    (.exit 0))
   (.seq (.block 1
    (.seq (.region [o 7 (.mv (t 5)),
      o 4 (.mv (t 7))])
    (.region [o 8 (.mv (t 4)),
      o 9 (.mv (t 0)),
      o 10 (.mv (t 4)),
      o 11 (.bin .mul (.const (.int .i64 8)) (t 10)),
      o 12 (.bin .shr (t 9) (t 11)),
      o 13 (.toInt .u8 (t 12)),
      o 14 (.indexArr 4 1 (t 3) (t 8)),
      ⟨none, none, 0, .store 1 (t 14) (t 13)⟩])))
   (.region [o 15 (.bin .add (t 5) (.const (.int .i64 1))),
     o 5 (.mv (t 15))])))))))
 (.seq (.region [o 16 (.sliceArr 4 1 (t 3) none none),
   o 17 (.bytesToStr (t 16)),
   o 2 (.mv (t 17))])
 .ret))))⟩
theorem c217 : compFn Go.Proofs.Tryz.prog Go.Proofs.Tryz.f217 = some a217 := by kernel_rfl
def a223 : AFunc := ⟨15, [.tmp 2],
 (.seq (.region [o 2 (.mv (.const (.string ⟨#[]⟩)))])
 (.seq (.seq (.region [o 3 (.mv (t 0)),
   o 4 (.bin .lss (t 3) (.const (.int .i64 10)))])
 (.cond (t 4)
  (.seq (.region [o 5 (.mv (t 0)),
    o 6 (.mv (t 0)),
    o 7 (.bin .add (t 6) (.const (.int .i64 1))),
    o 8 (.sliceStr (.const (.string ⟨#[48, 49, 50, 51, 52, 53, 54, 55, 56, 57, 97, 98, 99, 100, 101, 102, 103, 104, 105, 106, 107, 108, 109, 110, 111, 112, 113, 114, 115, 116, 117, 118, 119, 120, 121, 122]⟩)) (some (t 5)) (some (t 7))),
    o 2 (.mv (t 8))])
  .ret)
  .skip))
 (.seq (.region [o 9 (.mv (t 0)),
   o 10 (.bin .mul (t 9) (.const (.int .i64 2))),
   o 11 (.mv (t 0)),
   o 12 (.bin .mul (t 11) (.const (.int .i64 2))),
   o 13 (.bin .add (t 12) (.const (.int .i64 2))),
   o 14 (.sliceStr (.const (.string ⟨#[48, 48, 48, 49, 48, 50, 48, 51, 48, 52, 48, 53, 48, 54, 48, 55, 48, 56, 48, 57, 49, 48, 49, 49, 49, 50, 49, 51, 49, 52, 49, 53, 49, 54, 49, 55, 49, 56, 49, 57, 50, 48, 50, 49, 50, 50, 50, 51, 50, 52, 50, 53, 50, 54, 50, 55, 50, 56, 50, 57, 51, 48, 51, 49, 51, 50, 51, 51, 51, 52, 51, 53, 51, 54, 51, 55, 51, 56, 51, 57, 52, 48, 52, 49, 52, 50, 52, 51, 52, 52, 52, 53, 52, 54, 52, 55, 52, 56, 52, 57, 53, 48, 53, 49, 53, 50, 53, 51, 53, 52, 53, 53, 53, 54, 53, 55, 53, 56, 53, 57, 54, 48, 54, 49, 54, 50, 54, 51, 54, 52, 54, 53, 54, 54, 54, 55, 54, 56, 54, 57, 55, 48, 55, 49, 55, 50, 55, 51, 55, 52, 55, 53, 55, 54, 55, 55, 55, 56, 55, 57, 56, 48, 56, 49, 56, 50, 56, 51, 56, 52, 56, 53, 56, 54, 56, 55, 56, 56, 56, 57, 57, 48, 57, 49, 57, 50, 57, 51, 57, 52, 57, 53, 57, 54, 57, 55, 57, 56, 57, 57]⟩)) (some (t 10)) (some (t 13))),
   o 2 (.mv (t 14))])
 .ret)))⟩
theorem c223 : compFn Go.Proofs.Tryz.prog Go.Proofs.Tryz.f223 = some a223 := by kernel_rfl
end Go.Am.R1

/-
  The functions of the program that are reached, compiled for the abstract machine. Written by program.
-/
set_option maxRecDepth 100000
namespace Go.Am.R1
open Go Go.Am
def tabT : T AFn := (.n (.n (.n (.n (.n (.n (.n (.n .e (some (.code a127)) .e) none (.n .e (some (.code a191)) .e)) (some (.code a31)) (.n (.n .e (some (.code a159)) .e) (some (.code a95)) (.n .e (some (.code a223)) .e))) (some (.code a15)) (.n (.n .e (some (.code a79)) .e) none (.n .e (some (.code a111)) .e))) (some (.code a7)) (.n (.n (.n (.n .e (some (.code a135)) .e) (some (.code a71)) .e) (some (.code a39)) (.n .e (some (.code a103)) .e)) (some (.code a23)) (.n (.n (.n .e (some (.code a151)) .e) (some (.code a87)) (.n .e (some (.code a215)) .e)) (some (.code a55)) (.n .e (some (.code a119)) .e)))) none (.n (.n (.n (.n .e (some (.code a67)) (.n .e (some (.code a195)) .e)) (some (.code a35)) (.n .e (some (.code a99)) .e)) none (.n (.n (.n .e (some (.code a147)) .e) (some (.code a83)) .e) none (.n .e (some (.code a115)) .e))) none (.n (.n (.n (.n .e (some (.code a139)) .e) (some (.code a75)) .e) (some (.code a43)) (.n (.n .e (some (.code a171)) .e) (some (.code a107)) .e)) (some (.code a27)) (.n (.n (.n .e (some (.code a155)) .e) (some (.code a91)) .e) (some (.code a59)) (.n (.n .e (some (.code a187)) .e) (some (.code a123)) .e))))) none (.n (.n (.n (.n (.n (.n .e (some (.code a129)) .e) (some (.code a65)) (.n .e (some (.code a193)) .e)) (some (.code a33)) (.n .e (some (.code a97)) .e)) (some (.code a17)) (.n (.n (.n .e (some (.code a145)) .e) (some (.code a81)) .e) none (.n (.n .e (some (.code a177)) .e) none .e))) (some (.code a9)) (.n (.n (.n (.n .e (some (.code a137)) .e) none .e) (some (.code a41)) (.n (.n .e (some (.code a169)) .e) none .e)) (some (.code a25)) (.n (.n (.n .e (some (.code a153)) .e) (some (.code a89)) (.n .e (some (.code a217)) .e)) (some (.code a57)) (.n .e (some (.code a121)) .e)))) none (.n (.n (.n (.n .e (some (.code a69)) .e) (some (.code a37)) (.n (.n .e (some (.code a165)) .e) none .e)) none (.n (.n .e (some (.code a85)) .e) (some (.code a53)) (.n .e (some (.code a117)) .e))) (some (.code a13)) (.n (.n (.n .e (some (.code a77)) .e) (some (.code a45)) (.n (.n .e (some (.code a173)) .e) (some (.code a109)) .e)) none (.n (.n (.n .e (some (.code a157)) .e) (some (.code a93)) .e) none (.n (.n .e (some (.code a189)) .e) none .e)))))) none (.n (.n (.n (.n (.n (.n (.n .e (some (.code a128)) .e) (some (.code a64)) (.n .e (some (.code a192)) .e)) (some (.code a32)) (.n .e (some (.code a96)) .e)) (some (.code a16)) (.n (.n (.n .e (some (.code a144)) .e) (some (.code a80)) .e) (some (.keys .int [86,124,149])) (.n .e (some (.code a112)) .e))) none (.n (.n (.n (.n .e (some (.code a136)) .e) none .e) (some (.code a40)) (.n .e (some (.code a104)) .e)) (some (.code a24)) (.n (.n (.n .e (some (.code a152)) .e) (some (.code a88)) (.n .e (some (.code a216)) .e)) (some (.code a56)) (.n (.n .e (some (.code a184)) .e) (some (.code a120)) .e)))) none (.n (.n (.n .e (some (.code a36)) .e) (some (.code a20)) (.n (.n .e none (.n .e (some .clone) .e)) (some (.code a52)) (.n (.n .e (some (.code a180)) .e) (some (.code a116)) .e))) (some (.code a12)) (.n (.n (.n (.n .e (some (.code a140)) .e) (some (.code a76)) .e) (some (.code a44)) (.n (.n .e (some (.code a172)) .e) (some (.code a108)) .e)) (some (.code a28)) (.n (.n (.n .e (some (.code a156)) .e) (some (.code a92)) .e) (some (.code a60)) (.n (.n .e (some (.code a188)) .e) none .e))))) none (.n (.n (.n (.n (.n (.n .e (some (.code a130)) .e) (some (.code a66)) (.n .e (some (.code a194)) .e)) (some (.code a34)) (.n .e (some (.code a98)) .e)) (some (.code a18)) (.n (.n (.n .e (some (.code a146)) .e) (some (.code a82)) .e) (some (.code a50)) (.n (.n .e (some (.code a178)) .e) none .e))) none (.n (.n (.n .e (some (.code a74)) (.n .e (some (.code a202)) .e)) (some (.code a42)) (.n (.n .e (some (.code a170)) .e) (some (.code a106)) .e)) (some (.code a26)) (.n (.n (.n .e (some (.code a154)) .e) (some (.keys .str [133])) .e) (some (.code a58)) (.n (.n .e (some (.code a186)) .e) (some (.code a122)) .e)))) (some (.code a6)) (.n (.n (.n (.n (.n .e (some (.code a134)) .e) (some (.code a70)) .e) (some (.code a38)) .e) (some (.code a22)) (.n (.n (.n .e (some (.code a150)) .e) none (.n .e (some (.code a214)) .e)) (some (.code a54)) (.n .e (some (.code a118)) .e))) (some (.code a14)) (.n (.n (.n .e (some (.code a78)) .e) (some (.code a46)) (.n (.n .e (some (.code a174)) .e) none .e)) none (.n (.n (.n .e (some (.code a158)) .e) none .e) none (.n (.n .e (some (.code a190)) .e) (some (.code a126)) .e)))))))
def tabL : List (Nat × AFn) := [(7, (.code a7)), (15, (.code a15)), (31, (.code a31)), (127, (.code a127)), (191, (.code a191)), (95, (.code a95)), (159, (.code a159)), (223, (.code a223)), (79, (.code a79)), (111, (.code a111)), (23, (.code a23)), (39, (.code a39)), (71, (.code a71)), (135, (.code a135)), (103, (.code a103)), (55, (.code a55)), (87, (.code a87)), (151, (.code a151)), (215, (.code a215)), (119, (.code a119)), (35, (.code a35)), (67, (.code a67)), (195, (.code a195)), (99, (.code a99)), (83, (.code a83)), (147, (.code a147)), (115, (.code a115)), (27, (.code a27)), (43, (.code a43)), (75, (.code a75)), (139, (.code a139)), (107, (.code a107)), (171, (.code a171)), (59, (.code a59)), (91, (.code a91)), (155, (.code a155)), (123, (.code a123)), (187, (.code a187)), (9, (.code a9)), (17, (.code a17)), (33, (.code a33)), (65, (.code a65)), (129, (.code a129)), (193, (.code a193)), (97, (.code a97)), (81, (.code a81)), (145, (.code a145)), (177, (.code a177)), (25, (.code a25)), (41, (.code a41)), (137, (.code a137)), (169, (.code a169)), (57, (.code a57)), (89, (.code a89)), (153, (.code a153)), (217, (.code a217)), (121, (.code a121)), (13, (.code a13)), (37, (.code a37)), (69, (.code a69)), (165, (.code a165)), (53, (.code a53)), (85, (.code a85)), (117, (.code a117)), (45, (.code a45)), (77, (.code a77)), (109, (.code a109)), (173, (.code a173)), (93, (.code a93)), (157, (.code a157)), (189, (.code a189)), (16, (.code a16)), (32, (.code a32)), (64, (.code a64)), (128, (.code a128)), (192, (.code a192)), (96, (.code a96)), (48, (.keys .int [86,124,149])), (80, (.code a80)), (144, (.code a144)), (112, (.code a112)), (24, (.code a24)), (40, (.code a40)), (136, (.code a136)), (104, (.code a104)), (56, (.code a56)), (88, (.code a88)), (152, (.code a152)), (216, (.code a216)), (120, (.code a120)), (184, (.code a184)), (12, (.code a12)), (20, (.code a20)), (36, (.code a36)), (52, (.code a52)), (212, .clone), (116, (.code a116)), (180, (.code a180)), (28, (.code a28)), (44, (.code a44)), (76, (.code a76)), (140, (.code a140)), (108, (.code a108)), (172, (.code a172)), (60, (.code a60)), (92, (.code a92)), (156, (.code a156)), (188, (.code a188)), (6, (.code a6)), (18, (.code a18)), (34, (.code a34)), (66, (.code a66)), (130, (.code a130)), (194, (.code a194)), (98, (.code a98)), (50, (.code a50)), (82, (.code a82)), (146, (.code a146)), (178, (.code a178)), (26, (.code a26)), (42, (.code a42)), (74, (.code a74)), (202, (.code a202)), (106, (.code a106)), (170, (.code a170)), (58, (.code a58)), (90, (.keys .str [133])), (154, (.code a154)), (122, (.code a122)), (186, (.code a186)), (14, (.code a14)), (22, (.code a22)), (38, (.code a38)), (70, (.code a70)), (134, (.code a134)), (54, (.code a54)), (150, (.code a150)), (214, (.code a214)), (118, (.code a118)), (46, (.code a46)), (78, (.code a78)), (174, (.code a174)), (158, (.code a158)), (126, (.code a126)), (190, (.code a190))]
theorem tab_list : tabT.toList = tabL := by kernel_rfl
section
variable (k48 : FnOk Go.Proofs.Tryz.prog 48 (sortedKeys .int [86,124,149]))
variable (k90 : FnOk Go.Proofs.Tryz.prog 90 (sortedKeys .str [133]))
variable (k212 : FnOk Go.Proofs.Tryz.prog 212 cloneStr)
include k48 k90 k212
theorem tab_all : ∀ p ∈ tabL, EntOk Go.Proofs.Tryz.prog p.1 p.2 :=
  all_cons ⟨Go.Proofs.Tryz.f7, Go.Proofs.Tryz.func7, by kernel_rfl, c7⟩ (
  all_cons ⟨Go.Proofs.Tryz.f15, Go.Proofs.Tryz.func15, by kernel_rfl, c15⟩ (
  all_cons ⟨Go.Proofs.Tryz.f31, Go.Proofs.Tryz.func31, by kernel_rfl, c31⟩ (
  all_cons ⟨Go.Proofs.Tryz.f127, Go.Proofs.Tryz.func127, by kernel_rfl, c127⟩ (
  all_cons ⟨Go.Proofs.Tryz.f191, Go.Proofs.Tryz.func191, by kernel_rfl, c191⟩ (
  all_cons ⟨Go.Proofs.Tryz.f95, Go.Proofs.Tryz.func95, by kernel_rfl, c95⟩ (
  all_cons ⟨Go.Proofs.Tryz.f159, Go.Proofs.Tryz.func159, by kernel_rfl, c159⟩ (
  all_cons ⟨Go.Proofs.Tryz.f223, Go.Proofs.Tryz.func223, by kernel_rfl, c223⟩ (
  all_cons ⟨Go.Proofs.Tryz.f79, Go.Proofs.Tryz.func79, by kernel_rfl, c79⟩ (
  all_cons ⟨Go.Proofs.Tryz.f111, Go.Proofs.Tryz.func111, by kernel_rfl, c111⟩ (
  all_cons ⟨Go.Proofs.Tryz.f23, Go.Proofs.Tryz.func23, by kernel_rfl, c23⟩ (
  all_cons ⟨Go.Proofs.Tryz.f39, Go.Proofs.Tryz.func39, by kernel_rfl, c39⟩ (
  all_cons ⟨Go.Proofs.Tryz.f71, Go.Proofs.Tryz.func71, by kernel_rfl, c71⟩ (
  all_cons ⟨Go.Proofs.Tryz.f135, Go.Proofs.Tryz.func135, by kernel_rfl, c135⟩ (
  all_cons ⟨Go.Proofs.Tryz.f103, Go.Proofs.Tryz.func103, by kernel_rfl, c103⟩ (
  all_cons ⟨Go.Proofs.Tryz.f55, Go.Proofs.Tryz.func55, by kernel_rfl, c55⟩ (
  all_cons ⟨Go.Proofs.Tryz.f87, Go.Proofs.Tryz.func87, by kernel_rfl, c87⟩ (
  all_cons ⟨Go.Proofs.Tryz.f151, Go.Proofs.Tryz.func151, by kernel_rfl, c151⟩ (
  all_cons ⟨Go.Proofs.Tryz.f215, Go.Proofs.Tryz.func215, by kernel_rfl, c215⟩ (
  all_cons ⟨Go.Proofs.Tryz.f119, Go.Proofs.Tryz.func119, by kernel_rfl, c119⟩ (
  all_cons ⟨Go.Proofs.Tryz.f35, Go.Proofs.Tryz.func35, by kernel_rfl, c35⟩ (
  all_cons ⟨Go.Proofs.Tryz.f67, Go.Proofs.Tryz.func67, by kernel_rfl, c67⟩ (
  all_cons ⟨Go.Proofs.Tryz.f195, Go.Proofs.Tryz.func195, by kernel_rfl, c195⟩ (
  all_cons ⟨Go.Proofs.Tryz.f99, Go.Proofs.Tryz.func99, by kernel_rfl, c99⟩ (
  all_cons ⟨Go.Proofs.Tryz.f83, Go.Proofs.Tryz.func83, by kernel_rfl, c83⟩ (
  all_cons ⟨Go.Proofs.Tryz.f147, Go.Proofs.Tryz.func147, by kernel_rfl, c147⟩ (
  all_cons ⟨Go.Proofs.Tryz.f115, Go.Proofs.Tryz.func115, by kernel_rfl, c115⟩ (
  all_cons ⟨Go.Proofs.Tryz.f27, Go.Proofs.Tryz.func27, by kernel_rfl, c27⟩ (
  all_cons ⟨Go.Proofs.Tryz.f43, Go.Proofs.Tryz.func43, by kernel_rfl, c43⟩ (
  all_cons ⟨Go.Proofs.Tryz.f75, Go.Proofs.Tryz.func75, by kernel_rfl, c75⟩ (
  all_cons ⟨Go.Proofs.Tryz.f139, Go.Proofs.Tryz.func139, by kernel_rfl, c139⟩ (
  all_cons ⟨Go.Proofs.Tryz.f107, Go.Proofs.Tryz.func107, by kernel_rfl, c107⟩ (
  all_cons ⟨Go.Proofs.Tryz.f171, Go.Proofs.Tryz.func171, by kernel_rfl, c171⟩ (
  all_cons ⟨Go.Proofs.Tryz.f59, Go.Proofs.Tryz.func59, by kernel_rfl, c59⟩ (
  all_cons ⟨Go.Proofs.Tryz.f91, Go.Proofs.Tryz.func91, by kernel_rfl, c91⟩ (
  all_cons ⟨Go.Proofs.Tryz.f155, Go.Proofs.Tryz.func155, by kernel_rfl, c155⟩ (
  all_cons ⟨Go.Proofs.Tryz.f123, Go.Proofs.Tryz.func123, by kernel_rfl, c123⟩ (
  all_cons ⟨Go.Proofs.Tryz.f187, Go.Proofs.Tryz.func187, by kernel_rfl, c187⟩ (
  all_cons ⟨Go.Proofs.Tryz.f9, Go.Proofs.Tryz.func9, by kernel_rfl, c9⟩ (
  all_cons ⟨Go.Proofs.Tryz.f17, Go.Proofs.Tryz.func17, by kernel_rfl, c17⟩ (
  all_cons ⟨Go.Proofs.Tryz.f33, Go.Proofs.Tryz.func33, by kernel_rfl, c33⟩ (
  all_cons ⟨Go.Proofs.Tryz.f65, Go.Proofs.Tryz.func65, by kernel_rfl, c65⟩ (
  all_cons ⟨Go.Proofs.Tryz.f129, Go.Proofs.Tryz.func129, by kernel_rfl, c129⟩ (
  all_cons ⟨Go.Proofs.Tryz.f193, Go.Proofs.Tryz.func193, by kernel_rfl, c193⟩ (
  all_cons ⟨Go.Proofs.Tryz.f97, Go.Proofs.Tryz.func97, by kernel_rfl, c97⟩ (
  all_cons ⟨Go.Proofs.Tryz.f81, Go.Proofs.Tryz.func81, by kernel_rfl, c81⟩ (
  all_cons ⟨Go.Proofs.Tryz.f145, Go.Proofs.Tryz.func145, by kernel_rfl, c145⟩ (
  all_cons ⟨Go.Proofs.Tryz.f177, Go.Proofs.Tryz.func177, by kernel_rfl, c177⟩ (
  all_cons ⟨Go.Proofs.Tryz.f25, Go.Proofs.Tryz.func25, by kernel_rfl, c25⟩ (
  all_cons ⟨Go.Proofs.Tryz.f41, Go.Proofs.Tryz.func41, by kernel_rfl, c41⟩ (
  all_cons ⟨Go.Proofs.Tryz.f137, Go.Proofs.Tryz.func137, by kernel_rfl, c137⟩ (
  all_cons ⟨Go.Proofs.Tryz.f169, Go.Proofs.Tryz.func169, by kernel_rfl, c169⟩ (
  all_cons ⟨Go.Proofs.Tryz.f57, Go.Proofs.Tryz.func57, by kernel_rfl, c57⟩ (
  all_cons ⟨Go.Proofs.Tryz.f89, Go.Proofs.Tryz.func89, by kernel_rfl, c89⟩ (
  all_cons ⟨Go.Proofs.Tryz.f153, Go.Proofs.Tryz.func153, by kernel_rfl, c153⟩ (
  all_cons ⟨Go.Proofs.Tryz.f217, Go.Proofs.Tryz.func217, by kernel_rfl, c217⟩ (
  all_cons ⟨Go.Proofs.Tryz.f121, Go.Proofs.Tryz.func121, by kernel_rfl, c121⟩ (
  all_cons ⟨Go.Proofs.Tryz.f13, Go.Proofs.Tryz.func13, by kernel_rfl, c13⟩ (
  all_cons ⟨Go.Proofs.Tryz.f37, Go.Proofs.Tryz.func37, by kernel_rfl, c37⟩ (
  all_cons ⟨Go.Proofs.Tryz.f69, Go.Proofs.Tryz.func69, by kernel_rfl, c69⟩ (
  all_cons ⟨Go.Proofs.Tryz.f165, Go.Proofs.Tryz.func165, by kernel_rfl, c165⟩ (
  all_cons ⟨Go.Proofs.Tryz.f53, Go.Proofs.Tryz.func53, by kernel_rfl, c53⟩ (
  all_cons ⟨Go.Proofs.Tryz.f85, Go.Proofs.Tryz.func85, by kernel_rfl, c85⟩ (
  all_cons ⟨Go.Proofs.Tryz.f117, Go.Proofs.Tryz.func117, by kernel_rfl, c117⟩ (
  all_cons ⟨Go.Proofs.Tryz.f45, Go.Proofs.Tryz.func45, by kernel_rfl, c45⟩ (
  all_cons ⟨Go.Proofs.Tryz.f77, Go.Proofs.Tryz.func77, by kernel_rfl, c77⟩ (
  all_cons ⟨Go.Proofs.Tryz.f109, Go.Proofs.Tryz.func109, by kernel_rfl, c109⟩ (
  all_cons ⟨Go.Proofs.Tryz.f173, Go.Proofs.Tryz.func173, by kernel_rfl, c173⟩ (
  all_cons ⟨Go.Proofs.Tryz.f93, Go.Proofs.Tryz.func93, by kernel_rfl, c93⟩ (
  all_cons ⟨Go.Proofs.Tryz.f157, Go.Proofs.Tryz.func157, by kernel_rfl, c157⟩ (
  all_cons ⟨Go.Proofs.Tryz.f189, Go.Proofs.Tryz.func189, by kernel_rfl, c189⟩ (
  all_cons ⟨Go.Proofs.Tryz.f16, Go.Proofs.Tryz.func16, by kernel_rfl, c16⟩ (
  all_cons ⟨Go.Proofs.Tryz.f32, Go.Proofs.Tryz.func32, by kernel_rfl, c32⟩ (
  all_cons ⟨Go.Proofs.Tryz.f64, Go.Proofs.Tryz.func64, by kernel_rfl, c64⟩ (
  all_cons ⟨Go.Proofs.Tryz.f128, Go.Proofs.Tryz.func128, by kernel_rfl, c128⟩ (
  all_cons ⟨Go.Proofs.Tryz.f192, Go.Proofs.Tryz.func192, by kernel_rfl, c192⟩ (
  all_cons ⟨Go.Proofs.Tryz.f96, Go.Proofs.Tryz.func96, by kernel_rfl, c96⟩ (
  all_cons k48 (
  all_cons ⟨Go.Proofs.Tryz.f80, Go.Proofs.Tryz.func80, by kernel_rfl, c80⟩ (
  all_cons ⟨Go.Proofs.Tryz.f144, Go.Proofs.Tryz.func144, by kernel_rfl, c144⟩ (
  all_cons ⟨Go.Proofs.Tryz.f112, Go.Proofs.Tryz.func112, by kernel_rfl, c112⟩ (
  all_cons ⟨Go.Proofs.Tryz.f24, Go.Proofs.Tryz.func24, by kernel_rfl, c24⟩ (
  all_cons ⟨Go.Proofs.Tryz.f40, Go.Proofs.Tryz.func40, by kernel_rfl, c40⟩ (
  all_cons ⟨Go.Proofs.Tryz.f136, Go.Proofs.Tryz.func136, by kernel_rfl, c136⟩ (
  all_cons ⟨Go.Proofs.Tryz.f104, Go.Proofs.Tryz.func104, by kernel_rfl, c104⟩ (
  all_cons ⟨Go.Proofs.Tryz.f56, Go.Proofs.Tryz.func56, by kernel_rfl, c56⟩ (
  all_cons ⟨Go.Proofs.Tryz.f88, Go.Proofs.Tryz.func88, by kernel_rfl, c88⟩ (
  all_cons ⟨Go.Proofs.Tryz.f152, Go.Proofs.Tryz.func152, by kernel_rfl, c152⟩ (
  all_cons ⟨Go.Proofs.Tryz.f216, Go.Proofs.Tryz.func216, by kernel_rfl, c216⟩ (
  all_cons ⟨Go.Proofs.Tryz.f120, Go.Proofs.Tryz.func120, by kernel_rfl, c120⟩ (
  all_cons ⟨Go.Proofs.Tryz.f184, Go.Proofs.Tryz.func184, by kernel_rfl, c184⟩ (
  all_cons ⟨Go.Proofs.Tryz.f12, Go.Proofs.Tryz.func12, by kernel_rfl, c12⟩ (
  all_cons ⟨Go.Proofs.Tryz.f20, Go.Proofs.Tryz.func20, by kernel_rfl, c20⟩ (
  all_cons ⟨Go.Proofs.Tryz.f36, Go.Proofs.Tryz.func36, by kernel_rfl, c36⟩ (
  all_cons ⟨Go.Proofs.Tryz.f52, Go.Proofs.Tryz.func52, by kernel_rfl, c52⟩ (
  all_cons k212 (
  all_cons ⟨Go.Proofs.Tryz.f116, Go.Proofs.Tryz.func116, by kernel_rfl, c116⟩ (
  all_cons ⟨Go.Proofs.Tryz.f180, Go.Proofs.Tryz.func180, by kernel_rfl, c180⟩ (
  all_cons ⟨Go.Proofs.Tryz.f28, Go.Proofs.Tryz.func28, by kernel_rfl, c28⟩ (
  all_cons ⟨Go.Proofs.Tryz.f44, Go.Proofs.Tryz.func44, by kernel_rfl, c44⟩ (
  all_cons ⟨Go.Proofs.Tryz.f76, Go.Proofs.Tryz.func76, by kernel_rfl, c76⟩ (
  all_cons ⟨Go.Proofs.Tryz.f140, Go.Proofs.Tryz.func140, by kernel_rfl, c140⟩ (
  all_cons ⟨Go.Proofs.Tryz.f108, Go.Proofs.Tryz.func108, by kernel_rfl, c108⟩ (
  all_cons ⟨Go.Proofs.Tryz.f172, Go.Proofs.Tryz.func172, by kernel_rfl, c172⟩ (
  all_cons ⟨Go.Proofs.Tryz.f60, Go.Proofs.Tryz.func60, by kernel_rfl, c60⟩ (
  all_cons ⟨Go.Proofs.Tryz.f92, Go.Proofs.Tryz.func92, by kernel_rfl, c92⟩ (
  all_cons ⟨Go.Proofs.Tryz.f156, Go.Proofs.Tryz.func156, by kernel_rfl, c156⟩ (
  all_cons ⟨Go.Proofs.Tryz.f188, Go.Proofs.Tryz.func188, by kernel_rfl, c188⟩ (
  all_cons ⟨Go.Proofs.Tryz.f6, Go.Proofs.Tryz.func6, by kernel_rfl, c6⟩ (
  all_cons ⟨Go.Proofs.Tryz.f18, Go.Proofs.Tryz.func18, by kernel_rfl, c18⟩ (
  all_cons ⟨Go.Proofs.Tryz.f34, Go.Proofs.Tryz.func34, by kernel_rfl, c34⟩ (
  all_cons ⟨Go.Proofs.Tryz.f66, Go.Proofs.Tryz.func66, by kernel_rfl, c66⟩ (
  all_cons ⟨Go.Proofs.Tryz.f130, Go.Proofs.Tryz.func130, by kernel_rfl, c130⟩ (
  all_cons ⟨Go.Proofs.Tryz.f194, Go.Proofs.Tryz.func194, by kernel_rfl, c194⟩ (
  all_cons ⟨Go.Proofs.Tryz.f98, Go.Proofs.Tryz.func98, by kernel_rfl, c98⟩ (
  all_cons ⟨Go.Proofs.Tryz.f50, Go.Proofs.Tryz.func50, by kernel_rfl, c50⟩ (
  all_cons ⟨Go.Proofs.Tryz.f82, Go.Proofs.Tryz.func82, by kernel_rfl, c82⟩ (
  all_cons ⟨Go.Proofs.Tryz.f146, Go.Proofs.Tryz.func146, by kernel_rfl, c146⟩ (
  all_cons ⟨Go.Proofs.Tryz.f178, Go.Proofs.Tryz.func178, by kernel_rfl, c178⟩ (
  all_cons ⟨Go.Proofs.Tryz.f26, Go.Proofs.Tryz.func26, by kernel_rfl, c26⟩ (
  all_cons ⟨Go.Proofs.Tryz.f42, Go.Proofs.Tryz.func42, by kernel_rfl, c42⟩ (
  all_cons ⟨Go.Proofs.Tryz.f74, Go.Proofs.Tryz.func74, by kernel_rfl, c74⟩ (
  all_cons ⟨Go.Proofs.Tryz.f202, Go.Proofs.Tryz.func202, by kernel_rfl, c202⟩ (
  all_cons ⟨Go.Proofs.Tryz.f106, Go.Proofs.Tryz.func106, by kernel_rfl, c106⟩ (
  all_cons ⟨Go.Proofs.Tryz.f170, Go.Proofs.Tryz.func170, by kernel_rfl, c170⟩ (
  all_cons ⟨Go.Proofs.Tryz.f58, Go.Proofs.Tryz.func58, by kernel_rfl, c58⟩ (
  all_cons k90 (
  all_cons ⟨Go.Proofs.Tryz.f154, Go.Proofs.Tryz.func154, by kernel_rfl, c154⟩ (
  all_cons ⟨Go.Proofs.Tryz.f122, Go.Proofs.Tryz.func122, by kernel_rfl, c122⟩ (
  all_cons ⟨Go.Proofs.Tryz.f186, Go.Proofs.Tryz.func186, by kernel_rfl, c186⟩ (
  all_cons ⟨Go.Proofs.Tryz.f14, Go.Proofs.Tryz.func14, by kernel_rfl, c14⟩ (
  all_cons ⟨Go.Proofs.Tryz.f22, Go.Proofs.Tryz.func22, by kernel_rfl, c22⟩ (
  all_cons ⟨Go.Proofs.Tryz.f38, Go.Proofs.Tryz.func38, by kernel_rfl, c38⟩ (
  all_cons ⟨Go.Proofs.Tryz.f70, Go.Proofs.Tryz.func70, by kernel_rfl, c70⟩ (
  all_cons ⟨Go.Proofs.Tryz.f134, Go.Proofs.Tryz.func134, by kernel_rfl, c134⟩ (
  all_cons ⟨Go.Proofs.Tryz.f54, Go.Proofs.Tryz.func54, by kernel_rfl, c54⟩ (
  all_cons ⟨Go.Proofs.Tryz.f150, Go.Proofs.Tryz.func150, by kernel_rfl, c150⟩ (
  all_cons ⟨Go.Proofs.Tryz.f214, Go.Proofs.Tryz.func214, by kernel_rfl, c214⟩ (
  all_cons ⟨Go.Proofs.Tryz.f118, Go.Proofs.Tryz.func118, by kernel_rfl, c118⟩ (
  all_cons ⟨Go.Proofs.Tryz.f46, Go.Proofs.Tryz.func46, by kernel_rfl, c46⟩ (
  all_cons ⟨Go.Proofs.Tryz.f78, Go.Proofs.Tryz.func78, by kernel_rfl, c78⟩ (
  all_cons ⟨Go.Proofs.Tryz.f174, Go.Proofs.Tryz.func174, by kernel_rfl, c174⟩ (
  all_cons ⟨Go.Proofs.Tryz.f158, Go.Proofs.Tryz.func158, by kernel_rfl, c158⟩ (
  all_cons ⟨Go.Proofs.Tryz.f126, Go.Proofs.Tryz.func126, by kernel_rfl, c126⟩ (
  all_cons ⟨Go.Proofs.Tryz.f190, Go.Proofs.Tryz.func190, by kernel_rfl, c190⟩ (
  all_nil)))))))))))))))))))))))))))))))))))))))))))))))))))))))))))))))))))))))))))))))))))))))))))))))))))))))))))))))))))))))))))))))))))))))))))))))))
theorem tab_ok : TabOk Go.Proofs.Tryz.prog tabT.get := tabOk_of tab_list (tab_all k48 k90 k212)
end
end Go.Am.R1
