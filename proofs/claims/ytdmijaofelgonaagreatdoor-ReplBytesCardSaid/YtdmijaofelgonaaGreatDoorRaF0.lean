/-
  The functions of the program that are reached, compiled for the abstract machine. Written by program.
-/
import Derived.Test.YtdmijaofelgonaaGreatDoorAmO
import Derived.KernelRfl
import Derived.Test.YtdmijaofelgonaaGreatDoorProg
set_option maxRecDepth 100000
namespace Go.Am.R1
open Go Go.Am
def a6 : AFunc := ⟨257, [.tmp 0],
 (.seq (.region [o 0 (.mv (.const (.bool false)))])
 (.seq (.region [o 22 (.build [(.int .i64 0), (.int .i64 0), (.int .i64 0), (.int .i64 0), (.int .i64 0), (.int .i64 0), (.int .i64 0), (.int .i64 0), (.int .i64 0), (.int .i64 0), (.int .i64 0), (.int .i64 0), (.int .i64 0), (.int .i64 0)] [(0, 1, (.const (.int .i64 1))), (1, 1, (.const (.int .i64 2))), (3, 1, (.const (.int .i64 2))), (5, 1, (.const (.int .i64 4)))]),
   o 1 (.alloc [(.int .i64 0), (.int .i64 0), (.int .i64 0), (.int .i64 0), (.int .i64 0), (.int .i64 0), (.int .i64 0), (.int .i64 0), (.int .i64 0), (.int .i64 0), (.int .i64 0), (.int .i64 0), (.int .i64 0), (.int .i64 0)]),
   ⟨none, none, 0, .store 14 (t 1) (t 22)⟩])
 (.seq (.draw [o 24 (.load true 14 (t 1)),
   o 25 (.call 13 [(.const (.int .i64 10000))]),
   ⟨(some 26), none, 3, .call 12 [(.const (.int .i64 0)), (t 24), (.const (.int .i64 0)), (.const (.int .i64 0)), (t 25)]⟩,
   ⟨(some 23), none, 7, .mv (t 26)⟩,
   ⟨(some 27), none, 15, .extract 0 (t 23)⟩,
   ⟨(some 28), none, 15, .extract 1 (t 23)⟩,
   ⟨(some 2), none, 31, .mv (t 27)⟩,
   ⟨(some 3), none, 127, .mv (t 28)⟩])
 (.seq (.draw [o 30 (.load true 14 (t 1)),
   o 31 (.call 13 [(.const (.int .i64 10000))]),
   ⟨(some 32), none, 3, .call 12 [(.const (.int .i64 1)), (t 30), (.const (.int .i64 0)), (.const (.int .i64 0)), (t 31)]⟩,
   ⟨(some 29), none, 7, .mv (t 32)⟩,
   ⟨(some 33), none, 15, .extract 0 (t 29)⟩,
   ⟨(some 34), none, 15, .extract 1 (t 29)⟩,
   ⟨(some 4), none, 31, .mv (t 33)⟩,
   ⟨(some 5), none, 127, .mv (t 34)⟩])
 (.seq (.seq (.region [o 35 (.mv (t 2)),
   o 36 (.eqNil .ptr false (t 35) (.const (.pointer none))),
   o 37 (.mv (t 36)),
   ⟨(some 38), (some (37, false)), 0, .mv (t 4)⟩,
   ⟨(some 39), (some (37, false)), 0, .eqNil .ptr false (t 38) (.const (.pointer none))⟩,
   o 40 (.pick (t 37) (.const (.bool true)) (t 39)),
   o 41 (.mv (t 40)),
   ⟨(some 42), (some (41, false)), 0, .mv (t 3)⟩,
   ⟨(some 43), (some (41, false)), 0, .bin .neq (t 42) (.const (.int .i64 0))⟩,
   o 44 (.pick (t 41) (.const (.bool true)) (t 43)),
   o 45 (.mv (t 44)),
   ⟨(some 46), (some (45, false)), 0, .mv (t 5)⟩,
   ⟨(some 47), (some (45, false)), 0, .bin .neq (t 46) (.const (.int .i64 0))⟩,
   o 48 (.pick (t 45) (.const (.bool true)) (t 47))])
 (.cond (t 48)
  (.seq (.region [o 0 (.mv (.const (.bool false)))])
  .ret)
  .skip))
 (.seq (.region [o 50 (.build [(.int .i64 0), (.int .i64 0), (.string ⟨#[]⟩)] [(0, 1, (.const (.int .i64 1))), (1, 1, (.const (.int .i64 1))), (2, 1, (.const (.string ⟨#[120]⟩)))]),
   o 51 (.call 22 [(t 50)]),
   o 49 (.mv (t 51)),
   o 52 (.extract 0 (t 49)),
   o 53 (.extract 1 (t 49)),
   o 6 (.mv (t 52)),
   o 7 (.mv (t 53))])
 (.seq (.region [o 54 (.mv (t 2)),
   o 55 (.buildSlice 1 2 [(.int .i64 0), (.int .i64 0)] [(0, 1, (.const (.int .i64 0))), (1, 1, (.const (.int .i64 1)))]),
   o 56 (.build [(.int .u8 0), (.int .i64 0), (.int .i64 0), (.int .i64 0), (.int .i64 0), (.int .i64 0), (.int .i64 0), (.bool false), (.slice none 0 0), (.slice none 0 0), (.string ⟨#[]⟩)] [(0, 1, (.const (.int .u8 9))), (2, 1, (.const (.int .i64 1))), (4, 1, (.const (.int .i64 1))), (5, 1, (.const (.int .i64 1))), (8, 1, (t 55))]),
   o 57 (.call 14 [(t 54), (t 56)]),
   o 8 (.mv (t 57))])
 (.seq (.seq (.region [o 58 (.mv (t 8)),
   o 59 (.lenSl (t 58)),
   o 60 (.bin .neq (t 59) (.const (.int .i64 1))),
   o 61 (.mv (t 60)),
   ⟨(some 62), (some (61, false)), 0, .mv (t 8)⟩,
   ⟨(some 63), (some (61, false)), 0, .indexSl 11 (t 62) (.const (.int .i64 0))⟩,
   ⟨(some 64), (some (61, false)), 0, .fieldAddr 0 (t 63)⟩,
   ⟨(some 65), (some (61, false)), 0, .load false 1 (t 64)⟩,
   ⟨(some 66), (some (61, false)), 0, .bin .neq (t 65) (.const (.int .u8 12))⟩,
   o 67 (.pick (t 61) (.const (.bool true)) (t 66)),
   o 68 (.mv (t 67)),
   ⟨(some 69), (some (68, false)), 0, .mv (t 8)⟩,
   ⟨(some 70), (some (68, false)), 0, .indexSl 11 (t 69) (.const (.int .i64 0))⟩,
   ⟨(some 71), (some (68, false)), 0, .fieldAddr 2 (t 70)⟩,
   ⟨(some 72), (some (68, false)), 0, .load false 1 (t 71)⟩,
   ⟨(some 73), (some (68, false)), 0, .bin .neq (t 72) (.const (.int .i64 2))⟩,
   o 74 (.pick (t 68) (.const (.bool true)) (t 73))])
 (.cond (t 74)
  (.seq (.region [o 0 (.mv (.const (.bool false)))])
  .ret)
  .skip))
 (.seq (.region [o 75 (.mv (t 4)),
   o 76 (.mv (t 8)),
   o 77 (.indexSl 11 (t 76) (.const (.int .i64 0))),
   o 78 (.load true 11 (t 77)),
   o 79 (.call 14 [(t 75), (t 78)]),
   o 9 (.mv (t 79))])
 (.seq (.seq (.region [o 80 (.mv (t 9)),
   o 81 (.lenSl (t 80)),
   o 82 (.bin .neq (t 81) (.const (.int .i64 1))),
   o 83 (.mv (t 82)),
   ⟨(some 84), (some (83, false)), 0, .mv (t 9)⟩,
   ⟨(some 85), (some (83, false)), 0, .indexSl 11 (t 84) (.const (.int .i64 0))⟩,
   ⟨(some 86), (some (83, false)), 0, .fieldAddr 0 (t 85)⟩,
   ⟨(some 87), (some (83, false)), 0, .load false 1 (t 86)⟩,
   ⟨(some 88), (some (83, false)), 0, .bin .neq (t 87) (.const (.int .u8 13))⟩,
   o 89 (.pick (t 83) (.const (.bool true)) (t 88)),
   o 90 (.mv (t 89)),
   ⟨(some 91), (some (90, false)), 0, .mv (t 9)⟩,
   ⟨(some 92), (some (90, false)), 0, .indexSl 11 (t 91) (.const (.int .i64 0))⟩,
   ⟨(some 93), (some (90, false)), 0, .fieldAddr 3 (t 92)⟩,
   ⟨(some 94), (some (90, false)), 0, .load false 1 (t 93)⟩,
   ⟨(some 95), (some (90, false)), 0, .bin .neq (t 94) (.const (.int .i64 1))⟩,
   o 96 (.pick (t 90) (.const (.bool true)) (t 95))])
 (.cond (t 96)
  (.seq (.region [o 0 (.mv (.const (.bool false)))])
  .ret)
  .skip))
 (.seq (.region [o 97 (.mv (t 2)),
   o 98 (.mv (t 9)),
   o 99 (.indexSl 11 (t 98) (.const (.int .i64 0))),
   o 100 (.load true 11 (t 99)),
   o 101 (.call 14 [(t 97), (t 100)]),
   o 10 (.mv (t 101))])
 (.seq (.region [o 102 (.mv (t 2)),
   o 103 (.buildSlice 1 2 [(.int .i64 0), (.int .i64 0)] [(0, 1, (.const (.int .i64 0))), (1, 1, (.const (.int .i64 1)))]),
   o 104 (.build [(.int .u8 0), (.int .i64 0), (.int .i64 0), (.int .i64 0), (.int .i64 0), (.int .i64 0), (.int .i64 0), (.bool false), (.slice none 0 0), (.slice none 0 0), (.string ⟨#[]⟩)] [(0, 1, (.const (.int .u8 8))), (2, 1, (.const (.int .i64 1))), (4, 1, (.const (.int .i64 1))), (5, 1, (.const (.int .i64 1))), (8, 1, (t 103))]),
   o 105 (.call 14 [(t 102), (t 104)])])
 (.seq (.region [o 106 (.mv (t 2)),
   o 107 (.mv (t 6)),
   o 108 (.build [(.int .u8 0), (.int .i64 0), (.int .i64 0), (.int .i64 0), (.int .i64 0), (.int .i64 0), (.int .i64 0), (.bool false), (.slice none 0 0), (.slice none 0 0), (.string ⟨#[]⟩)] [(0, 1, (.const (.int .u8 18))), (1, 1, (.const (.int .i64 3))), (2, 1, (.const (.int .i64 1))), (3, 1, (.const (.int .i64 7))), (4, 1, (.const (.int .i64 1))), (5, 1, (.const (.int .i64 1))), (10, 1, (t 107))]),
   o 109 (.call 14 [(t 106), (t 108)]),
   o 11 (.mv (t 109))])
 (.seq (.seq (.region [o 110 (.mv (t 10)),
   o 111 (.lenSl (t 110)),
   o 112 (.bin .neq (t 111) (.const (.int .i64 1))),
   o 113 (.mv (t 112)),
   ⟨(some 114), (some (113, false)), 0, .mv (t 10)⟩,
   ⟨(some 115), (some (113, false)), 0, .indexSl 11 (t 114) (.const (.int .i64 0))⟩,
   ⟨(some 116), (some (113, false)), 0, .fieldAddr 0 (t 115)⟩,
   ⟨(some 117), (some (113, false)), 0, .load false 1 (t 116)⟩,
   ⟨(some 118), (some (113, false)), 0, .bin .neq (t 117) (.const (.int .u8 10))⟩,
   o 119 (.pick (t 113) (.const (.bool true)) (t 118)),
   o 120 (.mv (t 119)),
   ⟨(some 121), (some (120, false)), 0, .mv (t 11)⟩,
   ⟨(some 122), (some (120, false)), 0, .lenSl (t 121)⟩,
   ⟨(some 123), (some (120, false)), 0, .bin .neq (t 122) (.const (.int .i64 1))⟩,
   o 124 (.pick (t 120) (.const (.bool true)) (t 123)),
   o 125 (.mv (t 124)),
   ⟨(some 126), (some (125, false)), 0, .mv (t 11)⟩,
   ⟨(some 127), (some (125, false)), 0, .indexSl 11 (t 126) (.const (.int .i64 0))⟩,
   ⟨(some 128), (some (125, false)), 0, .fieldAddr 0 (t 127)⟩,
   ⟨(some 129), (some (125, false)), 0, .load false 1 (t 128)⟩,
   ⟨(some 130), (some (125, false)), 0, .bin .neq (t 129) (.const (.int .u8 14))⟩,
   o 131 (.pick (t 125) (.const (.bool true)) (t 130))])
 (.cond (t 131)
  (.seq (.region [o 0 (.mv (.const (.bool false)))])
  .ret)
  .skip))
 (.seq (.region [o 132 (.mv (t 4)),
   o 133 (.mv (t 11)),
   o 134 (.indexSl 11 (t 133) (.const (.int .i64 0))),
   o 135 (.load true 11 (t 134)),
   o 136 (.call 14 [(t 132), (t 135)]),
   o 12 (.mv (t 136))])
 (.seq (.seq (.region [o 137 (.mv (t 12)),
   o 138 (.lenSl (t 137)),
   o 139 (.bin .neq (t 138) (.const (.int .i64 1))),
   o 140 (.mv (t 139)),
   ⟨(some 141), (some (140, false)), 0, .mv (t 12)⟩,
   ⟨(some 142), (some (140, false)), 0, .indexSl 11 (t 141) (.const (.int .i64 0))⟩,
   ⟨(some 143), (some (140, false)), 0, .fieldAddr 6 (t 142)⟩,
   ⟨(some 144), (some (140, false)), 0, .load false 1 (t 143)⟩,
   ⟨(some 145), (some (140, false)), 0, .bin .neq (t 144) (.const (.int .i64 1))⟩,
   o 146 (.pick (t 140) (.const (.bool true)) (t 145))])
 (.cond (t 146)
  (.seq (.region [o 0 (.mv (.const (.bool false)))])
  .ret)
  .skip))
 (.seq (.region [o 147 (.mv (t 2)),
   o 148 (.mv (t 12)),
   o 149 (.indexSl 11 (t 148) (.const (.int .i64 0))),
   o 150 (.load true 11 (t 149)),
   o 151 (.call 14 [(t 147), (t 150)]),
   o 13 (.mv (t 151))])
 (.seq (.region [o 152 (.mv (t 2)),
   o 153 (.build [(.int .u8 0), (.int .i64 0), (.int .i64 0), (.int .i64 0), (.int .i64 0), (.int .i64 0), (.int .i64 0), (.bool false), (.slice none 0 0), (.slice none 0 0), (.string ⟨#[]⟩)] [(0, 1, (.const (.int .u8 20))), (1, 1, (.const (.int .i64 3))), (2, 1, (.const (.int .i64 1))), (3, 1, (.const (.int .i64 8))), (4, 1, (.const (.int .i64 1))), (5, 1, (.const (.int .i64 1)))]),
   o 154 (.call 14 [(t 152), (t 153)]),
   o 14 (.mv (t 154))])
 (.seq (.region [o 156 (.mv (t 2)),
   o 157 (.call 17 [(t 156), (.const (.int .i64 1))]),
   o 155 (.mv (t 157)),
   o 158 (.extract 0 (t 155)),
   o 159 (.extract 1 (t 155)),
   o 15 (.mv (t 158)),
   o 16 (.mv (t 159))])
 (.seq (.region [o 161 (.mv (t 2)),
   o 162 (.call 16 [(t 161)]),
   o 163 (.call 9 [(t 162)]),
   o 164 (.call 7 [(t 163)]),
   o 160 (.mv (t 164)),
   o 165 (.extract 0 (t 160)),
   o 166 (.extract 1 (t 160)),
   o 17 (.mv (t 165)),
   o 18 (.mv (t 166))])
 (.seq (.region [o 168 (.mv (t 4)),
   o 169 (.call 23 [(t 168), (.const (.int .i64 1))]),
   o 167 (.mv (t 169)),
   o 170 (.extract 0 (t 167)),
   o 171 (.extract 1 (t 167)),
   o 172 (.extract 2 (t 167)),
   o 19 (.mv (t 170)),
   o 20 (.mv (t 171)),
   o 21 (.mv (t 172))])
 (.seq (.region [o 173 (.mv (t 13)),
   o 174 (.lenSl (t 173)),
   o 175 (.bin .eql (t 174) (.const (.int .i64 1))),
   o 176 (.mv (t 175)),
   ⟨(some 177), (some (176, true)), 0, .mv (t 13)⟩,
   ⟨(some 178), (some (176, true)), 0, .indexSl 11 (t 177) (.const (.int .i64 0))⟩,
   ⟨(some 179), (some (176, true)), 0, .fieldAddr 2 (t 178)⟩,
   ⟨(some 180), (some (176, true)), 0, .load false 1 (t 179)⟩,
   ⟨(some 181), (some (176, true)), 0, .bin .eql (t 180) (.const (.int .i64 3))⟩,
   o 182 (.pick (t 176) (t 181) (.const (.bool false))),
   o 183 (.mv (t 182)),
   ⟨(some 184), (some (183, true)), 0, .mv (t 13)⟩,
   ⟨(some 185), (some (183, true)), 0, .indexSl 11 (t 184) (.const (.int .i64 0))⟩,
   ⟨(some 186), (some (183, true)), 0, .fieldAddr 3 (t 185)⟩,
   ⟨(some 187), (some (183, true)), 0, .load false 1 (t 186)⟩,
   ⟨(some 188), (some (183, true)), 0, .bin .eql (t 187) (.const (.int .i64 7))⟩,
   o 189 (.pick (t 183) (t 188) (.const (.bool false))),
   o 190 (.mv (t 189)),
   ⟨(some 191), (some (190, true)), 0, .mv (t 13)⟩,
   ⟨(some 192), (some (190, true)), 0, .indexSl 11 (t 191) (.const (.int .i64 0))⟩,
   ⟨(some 193), (some (190, true)), 0, .fieldAddr 4 (t 192)⟩,
   ⟨(some 194), (some (190, true)), 0, .load false 1 (t 193)⟩,
   ⟨(some 195), (some (190, true)), 0, .bin .eql (t 194) (.const (.int .i64 0))⟩,
   o 196 (.pick (t 190) (t 195) (.const (.bool false))),
   o 197 (.mv (t 196)),
   ⟨(some 198), (some (197, true)), 0, .mv (t 14)⟩,
   ⟨(some 199), (some (197, true)), 0, .lenSl (t 198)⟩,
   ⟨(some 200), (some (197, true)), 0, .bin .eql (t 199) (.const (.int .i64 1))⟩,
   o 201 (.pick (t 197) (t 200) (.const (.bool false))),
   o 202 (.mv (t 201)),
   ⟨(some 203), (some (202, true)), 0, .mv (t 14)⟩,
   ⟨(some 204), (some (202, true)), 0, .indexSl 11 (t 203) (.const (.int .i64 0))⟩,
   ⟨(some 205), (some (202, true)), 0, .fieldAddr 10 (t 204)⟩,
   ⟨(some 206), (some (202, true)), 0, .load false 1 (t 205)⟩,
   ⟨(some 207), (some (202, true)), 0, .bin .eql (t 206) (.const (.string ⟨#[120]⟩))⟩,
   o 208 (.pick (t 202) (t 207) (.const (.bool false))),
   o 209 (.mv (t 208)),
   ⟨(some 210), (some (209, true)), 0, .mv (t 15)⟩,
   ⟨(some 211), (some (209, true)), 0, .bin .eql (t 210) (.const (.int .i64 1))⟩,
   o 212 (.pick (t 209) (t 211) (.const (.bool false))),
   o 213 (.mv (t 212)),
   ⟨(some 214), (some (213, true)), 0, .mv (t 16)⟩,
   o 215 (.pick (t 213) (t 214) (.const (.bool false))),
   o 216 (.mv (t 215)),
   ⟨(some 217), (some (216, true)), 0, .mv (t 17)⟩,
   ⟨(some 218), (some (216, true)), 0, .lenSl (t 217)⟩,
   ⟨(some 219), (some (216, true)), 0, .bin .eql (t 218) (.const (.int .i64 1))⟩,
   o 220 (.pick (t 216) (t 219) (.const (.bool false))),
   o 221 (.mv (t 220)),
   ⟨(some 222), (some (221, true)), 0, .mv (t 18)⟩,
   ⟨(some 223), (some (221, true)), 0, .bin .eql (t 222) (.const (.int .i64 0))⟩,
   o 224 (.pick (t 221) (t 223) (.const (.bool false))),
   o 225 (.mv (t 224)),
   ⟨(some 226), (some (225, true)), 0, .mv (t 19)⟩,
   ⟨(some 227), (some (225, true)), 0, .bin .eql (t 226) (.const (.int .i64 1))⟩,
   o 228 (.pick (t 225) (t 227) (.const (.bool false))),
   o 229 (.mv (t 228)),
   ⟨(some 230), (some (229, true)), 0, .mv (t 20)⟩,
   ⟨(some 231), (some (229, true)), 0, .lenSl (t 230)⟩,
   ⟨(some 232), (some (229, true)), 0, .bin .eql (t 231) (.const (.int .i64 1))⟩,
   o 233 (.pick (t 229) (t 232) (.const (.bool false))),
   o 234 (.mv (t 233)),
   ⟨(some 235), (some (234, true)), 0, .mv (t 21)⟩,
   o 236 (.pick (t 234) (t 235) (.const (.bool false))),
   o 237 (.mv (t 236)),
   ⟨(some 238), (some (237, true)), 0, .mv (t 4)⟩,
   ⟨(some 239), (some (237, true)), 0, .call 15 [(t 238)]⟩,
   ⟨(some 240), (some (237, true)), 0, .bin .eql (t 239) (.const (.int .i64 1))⟩,
   o 241 (.pick (t 237) (t 240) (.const (.bool false))),
   o 242 (.mv (t 241)),
   ⟨(some 243), (some (242, true)), 0, .mv (t 2)⟩,
   ⟨(some 244), (some (242, true)), 0, .call 24 [(t 243)]⟩,
   o 245 (.pick (t 242) (t 244) (.const (.bool false))),
   o 246 (.mv (t 245)),
   ⟨(some 247), (some (246, true)), 0, .mv (t 2)⟩,
   ⟨(some 248), (some (246, true)), 0, .call 18 [(t 247)]⟩,
   ⟨(some 249), (some (246, true)), 0, .lenSl (t 248)⟩,
   ⟨(some 250), (some (246, true)), 0, .bin .eql (t 249) (.const (.int .i64 0))⟩,
   o 251 (.pick (t 246) (t 250) (.const (.bool false))),
   o 252 (.mv (t 251)),
   ⟨(some 253), (some (252, true)), 0, .mv (t 2)⟩,
   ⟨(some 254), (some (252, true)), 0, .call 20 [(t 253)]⟩,
   ⟨(some 255), (some (252, true)), 0, .bin .eql (t 254) (.const (.int .i64 1))⟩,
   o 256 (.pick (t 252) (t 255) (.const (.bool false))),
   o 0 (.mv (t 256))])
 .ret))))))))))))))))))))))⟩
theorem c6 : compFn Go.Proofs.Tryz.prog Go.Proofs.Tryz.f6 = some a6 := by kernel_rfl
def a7 : AFunc := ⟨37, [.tmp 2, .tmp 3],
 (.seq (.region [o 2 (.mv (.const (.slice none 0 0))),
   o 3 (.mv (.const (.int .i64 0)))])
 (.seq (.region [o 8 (.mv (t 0)),
   o 9 (.call 25 [(t 8)]),
   o 4 (.mv (t 9))])
 (.seq (.region [o 5 (.mv (.const (.slice none 0 0)))])
 (.seq (.seq (.region [o 10 (.mv (t 4)),
   o 11 (.call 26 [(t 10), (.const (.int .i64 65537))]),
   o 6 (.mv (t 11))])
 (.block 0
  (.loop
   (.seq (.seq (.region [o 12 (.mv (t 4)),
     o 13 (.call 27 [(t 12)]),
     o 14 (.bin .eql (t 13) (.const (.int .i64 0))),
     o 15 (.mv (t 14)),
     ⟨(some 16), (some (15, true)), 0, .mv (t 5)⟩,
     ⟨(some 17), (some (15, true)), 0, .lenSl (t 16)⟩,
     ⟨(some 18), (some (15, true)), 0, .mv (t 6)⟩,
     ⟨(some 19), (some (15, true)), 0, .bin .lss (t 17) (t 18)⟩,
     o 20 (.pick (t 15) (t 19) (.const (.bool false)))])
   (.cond (t 20)
    .skip
    (.exit 0)))
   (.block 1
    (.region [o 21 (.mv (t 5)),
      o 22 (.mv (t 4)),
      o 23 (.call 26 [(t 22), (.const (.int .i64 2147483648))]),
      o 24 (.mv (t 4)),
      o 25 (.call 26 [(t 24), (.const (.int .i64 2147483648))]),
      o 26 (.mv (t 4)),
      o 27 (.call 26 [(t 26), (.const (.int .i64 2147483648))]),
      o 28 (.build [(.int .i64 0), (.int .i64 0), (.int .i64 0)] [(0, 1, (t 23)), (1, 1, (t 25)), (2, 1, (t 27))]),
      o 29 (.buildSlice 3 1 [(.int .i64 0), (.int .i64 0), (.int .i64 0)] [(0, 3, (t 28))]),
      o 30 (.append 3 24 [(.int .i64 0), (.int .i64 0), (.int .i64 0)] (t 21) (t 29)),
      o 5 (.mv (t 30))]))))))
 (.seq (.seq (.region [o 31 (.mv (t 4)),
   o 32 (.call 28 [(t 31)]),
   o 7 (.mv (t 32))])
 (.seq (.region [o 33 (.mv (t 7)),
   o 34 (.bin .neq (t 33) (.const (.int .i64 0)))])
 (.cond (t 34)
  (.seq (.region [o 35 (.mv (t 7)),
    o 2 (.mv (.const (.slice none 0 0))),
    o 3 (.mv (t 35))])
  .ret)
  .skip)))
 (.seq (.region [o 36 (.mv (t 5)),
   o 2 (.mv (t 36)),
   o 3 (.mv (.const (.int .i64 0)))])
 .ret))))))⟩
theorem c7 : compFn Go.Proofs.Tryz.prog Go.Proofs.Tryz.f7 = some a7 := by kernel_rfl
def a9 : AFunc := ⟨31, [.tmp 2],
 (.seq (.region [o 2 (.mv (.const (.string ⟨#[]⟩)))])
 (.seq (.region [o 6 (.mv (t 0)),
   o 7 (.lenSl (t 6)),
   o 8 (.toInt .u64 (t 7)),
   o 9 (.buildSlice 1 1 [(.int .u64 0)] [(0, 1, (t 8))]),
   o 10 (.call 31 [(.const (.string ⟨#[]⟩)), (t 9)]),
   o 3 (.mv (t 10))])
 (.seq (.seq (.region [o 11 (.mv (t 0)),
   o 12 (.lenSl (t 11)),
   o 13 (.mv (.const (.int .i64 0)))])
 (.block 0
  (.loop
   (.seq (.region [o 14 (.bin .lss (t 13) (t 12))])
   (.seq (.cond (t 14)
    .skip
    (.exit 0))
   (.seq (.block 1
    (.seq (.region [o 15 (.indexSl 3 (t 11) (t 13)),
      o 16 (.load true 3 (t 15)),
      o 5 (.alloc [(.int .i64 0), (.int .i64 0), (.int .i64 0)]),
      ⟨none, none, 0, .store 3 (t 5) (t 16)⟩])
    (.region [o 17 (.mv (t 3)),
      o 18 (.fieldAddr 0 (t 5)),
      o 19 (.load false 1 (t 18)),
      o 20 (.toInt .u64 (t 19)),
      o 21 (.fieldAddr 1 (t 5)),
      o 22 (.load false 1 (t 21)),
      o 23 (.toInt .u64 (t 22)),
      o 24 (.fieldAddr 2 (t 5)),
      o 25 (.load false 1 (t 24)),
      o 26 (.toInt .u64 (t 25)),
      o 27 (.buildSlice 1 3 [(.int .u64 0), (.int .u64 0), (.int .u64 0)] [(0, 1, (t 20)), (1, 1, (t 23)), (2, 1, (t 26))]),
      o 28 (.call 31 [(t 17), (t 27)]),
      o 3 (.mv (t 28))])))
   (.region [o 29 (.bin .add (t 13) (.const (.int .i64 1))),
     o 13 (.mv (t 29))])))))))
 (.seq (.region [o 30 (.mv (t 3)),
   o 2 (.mv (t 30))])
 .ret))))⟩
theorem c9 : compFn Go.Proofs.Tryz.prog Go.Proofs.Tryz.f9 = some a9 := by kernel_rfl
def a12 : AFunc := ⟨115, [.tmp 10, .tmp 11],
 (.seq (.region [o 6 (.box (t 1)),
   o 10 (.mv (.const (.pointer none))),
   o 11 (.mv (.const (.int .i64 0)))])
 (.seq (.seq (.region [o 22 (.fieldAddr 1 (t 6)),
   o 23 (.load false 1 (t 22)),
   o 24 (.bin .lss (t 23) (.const (.int .i64 1))),
   o 25 (.mv (t 24)),
   ⟨(some 26), (some (25, false)), 0, .fieldAddr 1 (t 6)⟩,
   ⟨(some 27), (some (25, false)), 0, .load false 1 (t 26)⟩,
   ⟨(some 28), (some (25, false)), 0, .bin .gtr (t 27) (.const (.int .i64 8))⟩,
   o 29 (.pick (t 25) (.const (.bool true)) (t 28)),
   o 30 (.mv (t 29)),
   ⟨(some 31), (some (30, false)), 0, .fieldAddr 0 (t 6)⟩,
   ⟨(some 32), (some (30, false)), 0, .load false 1 (t 31)⟩,
   ⟨(some 33), (some (30, false)), 0, .bin .lss (t 32) (.const (.int .i64 0))⟩,
   o 34 (.pick (t 30) (.const (.bool true)) (t 33)),
   o 35 (.mv (t 34)),
   ⟨(some 36), (some (35, false)), 0, .fieldAddr 0 (t 6)⟩,
   ⟨(some 37), (some (35, false)), 0, .load false 1 (t 36)⟩,
   ⟨(some 38), (some (35, false)), 0, .bin .gtr (t 37) (.const (.int .i64 7))⟩,
   o 39 (.pick (t 35) (.const (.bool true)) (t 38)),
   o 40 (.mv (t 39)),
   ⟨(some 41), (some (40, false)), 0, .mv (t 0)⟩,
   ⟨(some 42), (some (40, false)), 0, .bin .lss (t 41) (.const (.int .i64 0))⟩,
   o 43 (.pick (t 40) (.const (.bool true)) (t 42)),
   o 44 (.mv (t 43)),
   ⟨(some 45), (some (44, false)), 0, .mv (t 0)⟩,
   ⟨(some 46), (some (44, false)), 0, .fieldAddr 1 (t 6)⟩,
   ⟨(some 47), (some (44, false)), 0, .load false 1 (t 46)⟩,
   ⟨(some 48), (some (44, false)), 0, .bin .geq (t 45) (t 47)⟩,
   o 49 (.pick (t 44) (.const (.bool true)) (t 48)),
   o 50 (.mv (t 49)),
   ⟨(some 51), (some (50, false)), 0, .mv (t 3)⟩,
   ⟨(some 52), (some (50, false)), 0, .bin .lss (t 51) (.const (.int .i64 0))⟩,
   o 53 (.pick (t 50) (.const (.bool true)) (t 52)),
   o 54 (.mv (t 53)),
   ⟨(some 55), (some (54, false)), 0, .mv (t 3)⟩,
   ⟨(some 56), (some (54, false)), 0, .bin .gtr (t 55) (.const (.int .i64 1048576))⟩,
   o 57 (.pick (t 54) (.const (.bool true)) (t 56))])
 (.cond (t 57)
  (.seq (.region [o 10 (.mv (.const (.pointer none))),
    o 11 (.mv (.const (.int .i64 1)))])
  .ret)
  .skip))
 (.seq (.region [o 59 (.mv (t 0)),
   o 60 (.load true 14 (t 6)),
   o 61 (.mv (t 3)),
   o 62 (.mv (t 4)),
   o 63 (.call 33 [(t 59), (t 60), (t 61), (t 62)]),
   o 58 (.mv (t 63)),
   o 64 (.extract 0 (t 58)),
   o 65 (.extract 1 (t 58)),
   o 12 (.mv (t 64)),
   o 13 (.mv (t 65))])
 (.seq (.seq (.region [o 66 (.mv (t 13)),
   o 67 (.bin .neq (t 66) (.const (.int .i64 0)))])
 (.cond (t 67)
  (.seq (.region [o 68 (.mv (t 13)),
    o 10 (.mv (.const (.pointer none))),
    o 11 (.mv (t 68))])
  .ret)
  .skip))
 (.seq (.region [o 70 (.mv (t 4)),
   o 71 (.call 34 [(t 70)]),
   o 69 (.mv (t 71)),
   o 72 (.extract 0 (t 69)),
   o 73 (.extract 1 (t 69)),
   o 14 (.mv (t 72)),
   o 13 (.mv (t 73))])
 (.seq (.seq (.region [o 74 (.mv (t 13)),
   o 75 (.bin .neq (t 74) (.const (.int .i64 0)))])
 (.cond (t 75)
  (.seq (.region [o 76 (.mv (t 13)),
    o 10 (.mv (.const (.pointer none))),
    o 11 (.mv (t 76))])
  .ret)
  .skip))
 (.seq (.region [o 77 (.mv (t 0)),
   o 78 (.mv (t 12)),
   o 79 (.load true 14 (t 6)),
   o 80 (.mv (t 4)),
   o 81 (.mv (t 14)),
   o 82 (.mv (t 2)),
   o 83 (.mkMap),
   o 84 (.mkMap),
   o 85 (.build [(.int .i64 0), (.int .i64 0), (.int .i64 0), (.int .i64 0), (.int .i64 0), (.int .i64 0), (.int .i64 0), (.int .i64 0), (.int .i64 0), (.int .i64 0), (.int .i64 0), (.int .i64 0), (.int .i64 0), (.int .i64 0), (.int .i64 0), (.int .i64 0), (.pointer none), (.pointer none), (.int .i64 0), (.map none), (.map none), (.map none), (.bool false), (.slice none 0 0)] [(0, 1, (t 77)), (1, 1, (t 78)), (2, 14, (t 79)), (16, 1, (t 80)), (17, 1, (t 81)), (18, 1, (t 82)), (20, 1, (t 83)), (21, 1, (t 84))]),
   o 86 (.box (t 85)),
   o 15 (.mv (t 86))])
 (.seq (.seq (.region [o 88 (.mv (t 4)),
   o 89 (.call 35 [(t 88), (.const (.string ⟨#[103, 111, 110, 101]⟩))]),
   o 87 (.mv (t 89)),
   o 90 (.extract 0 (t 87)),
   o 91 (.extract 1 (t 87)),
   o 16 (.mv (t 90)),
   o 17 (.mv (t 91))])
 (.seq (.region [o 92 (.mv (t 17)),
   o 93 (.bin .eql (t 92) (.const (.int .i64 0)))])
 (.cond (t 93)
  (.seq (.region [o 95 (.mv (t 16)),
    o 96 (.call 7 [(t 95)]),
    o 94 (.mv (t 96)),
    o 97 (.extract 0 (t 94)),
    o 98 (.extract 1 (t 94)),
    o 18 (.mv (t 97)),
    o 19 (.mv (t 98))])
  (.seq (.region [o 99 (.mv (t 18)),
    o 100 (.lenSl (t 99)),
    o 101 (.mv (.const (.int .i64 0)))])
  (.block 0
   (.loop
    (.seq (.region [o 102 (.bin .lss (t 101) (t 100))])
    (.seq (.cond (t 102)
     .skip
     (.exit 0))
    (.seq (.block 1
     (.seq (.region [o 103 (.indexSl 3 (t 99) (t 101)),
       o 104 (.load true 3 (t 103)),
       o 21 (.alloc [(.int .i64 0), (.int .i64 0), (.int .i64 0)]),
       ⟨none, none, 0, .store 3 (t 21) (t 104)⟩])
     (.draw [o 105 (.mv (t 15)),
       ⟨(some 106), none, 1, .nilCheck (t 105)⟩,
       ⟨(some 107), none, 3, .fieldAddr 21 (t 106)⟩,
       ⟨(some 108), none, 7, .load false 1 (t 107)⟩,
       o 109 (.fieldAddr 0 (t 21)),
       ⟨(some 110), none, 16, .load false 1 (t 109)⟩,
       o 111 (.fieldAddr 1 (t 21)),
       ⟨(some 112), none, 64, .load false 1 (t 111)⟩,
       ⟨none, none, 255, .mapSet .int (t 108) (t 110) (t 112)⟩])))
    (.region [o 113 (.bin .add (t 101) (.const (.int .i64 1))),
      o 101 (.mv (t 113))]))))))))
  .skip)))
 (.seq (.region [o 114 (.mv (t 15)),
   o 10 (.mv (t 114)),
   o 11 (.mv (.const (.int .i64 0)))])
 .ret)))))))))⟩
theorem c12 : compFn Go.Proofs.Tryz.prog Go.Proofs.Tryz.f12 = some a12 := by kernel_rfl
def a13 : AFunc := ⟨8, [.tmp 2],
 (.seq (.region [o 2 (.mv (.const (.pointer none)))])
 (.seq (.region [o 3 (.mv (t 0)),
   o 4 (.max [(t 3), (.const (.int .i64 0))]),
   o 5 (.mkMap),
   o 6 (.build [(.int .i64 0), (.int .i64 0), (.map none), (.bool false), (.int .i64 0)] [(0, 1, (t 4)), (2, 1, (t 5)), (4, 1, (.const (.int .i64 (-1))))]),
   o 7 (.box (t 6)),
   o 2 (.mv (t 7))])
 .ret))⟩
theorem c13 : compFn Go.Proofs.Tryz.prog Go.Proofs.Tryz.f13 = some a13 := by kernel_rfl
def a14 : AFunc := ⟨8, [.tmp 4],
 (.seq (.region [o 2 (.box (t 0)),
   o 3 (.box (t 1)),
   o 4 (.mv (.const (.slice none 0 0)))])
 (.seq (.region [o 5 (.load false 1 (t 2)),
   o 6 (.mkFunc (.func 37) [] [(t 2), (t 3)]),
   o 7 (.call 36 [(t 5), (t 6)]),
   o 4 (.mv (t 7))])
 .ret))⟩
theorem c14 : compFn Go.Proofs.Tryz.prog Go.Proofs.Tryz.f14 = some a14 := by kernel_rfl
def a15 : AFunc := ⟨7, [.tmp 2],
 (.seq (.region [o 2 (.mv (.const (.int .i64 0)))])
 (.seq (.region [o 3 (.mv (t 0)),
   o 4 (.nilCheck (t 3)),
   o 5 (.fieldAddr 1 (t 4)),
   o 6 (.load false 1 (t 5)),
   o 2 (.mv (t 6))])
 .ret))⟩
theorem c15 : compFn Go.Proofs.Tryz.prog Go.Proofs.Tryz.f15 = some a15 := by kernel_rfl
def a16 : AFunc := ⟨8, [.tmp 2],
 (.seq (.region [o 2 (.mv (.const (.slice none 0 0)))])
 (.seq (.region [o 3 (.mv (t 0)),
   o 4 (.nilCheck (t 3)),
   o 5 (.fieldAddr 17 (t 4)),
   o 6 (.load false 1 (t 5)),
   o 7 (.call 43 [(t 6)]),
   o 2 (.mv (t 7))])
 .ret))⟩
theorem c16 : compFn Go.Proofs.Tryz.prog Go.Proofs.Tryz.f16 = some a16 := by kernel_rfl
def a17 : AFunc := ⟨25, [.tmp 4, .tmp 5],
 (.seq (.region [o 4 (.mv (.const (.int .i64 0))),
   o 5 (.mv (.const (.bool false)))])
 (.seq (.region [o 7 (.mv (t 0)),
   o 8 (.nilCheck (t 7)),
   o 9 (.fieldAddr 20 (t 8)),
   o 10 (.load false 1 (t 9)),
   o 11 (.mv (t 1)),
   o 12 (.lookup .int (.pointer none) false (t 10) (t 11)),
   o 6 (.mv (t 12))])
 (.seq (.seq (.region [o 13 (.mv (t 6)),
   o 14 (.eqNil .ptr false (t 13) (.const (.pointer none))),
   o 15 (.mv (t 14)),
   ⟨(some 16), (some (15, false)), 0, .mv (t 0)⟩,
   ⟨(some 17), (some (15, false)), 0, .mv (t 6)⟩,
   ⟨(some 18), (some (15, false)), 0, .call 44 [(t 16), (t 17)]⟩,
   ⟨(some 19), (some (15, false)), 0, .bin .neq (t 18) (.const (.int .i64 0))⟩,
   o 20 (.pick (t 15) (.const (.bool true)) (t 19))])
 (.cond (t 20)
  (.seq (.region [o 4 (.mv (.const (.int .i64 0))),
    o 5 (.mv (.const (.bool false)))])
  .ret)
  .skip))
 (.seq (.region [o 21 (.mv (t 6)),
   o 22 (.nilCheck (t 21)),
   o 23 (.fieldAddr 1 (t 22)),
   o 24 (.load false 1 (t 23)),
   o 4 (.mv (t 24)),
   o 5 (.mv (.const (.bool true)))])
 .ret))))⟩
theorem c17 : compFn Go.Proofs.Tryz.prog Go.Proofs.Tryz.f17 = some a17 := by kernel_rfl
def a18 : AFunc := ⟨6, [.tmp 2],
 (.seq (.region [o 1 (.box (t 0)),
   o 2 (.mv (.const (.slice none 0 0)))])
 (.seq (.region [o 3 (.load false 1 (t 1)),
   o 4 (.mkFunc (.func 45) [] [(t 1)]),
   o 5 (.call 36 [(t 3), (t 4)]),
   o 2 (.mv (t 5))])
 .ret))⟩
theorem c18 : compFn Go.Proofs.Tryz.prog Go.Proofs.Tryz.f18 = some a18 := by kernel_rfl
def a20 : AFunc := ⟨7, [.tmp 2],
 (.seq (.region [o 2 (.mv (.const (.int .i64 0)))])
 (.seq (.region [o 3 (.mv (t 0)),
   o 4 (.nilCheck (t 3)),
   o 5 (.fieldAddr 18 (t 4)),
   o 6 (.load false 1 (t 5)),
   o 2 (.mv (t 6))])
 .ret))⟩
theorem c20 : compFn Go.Proofs.Tryz.prog Go.Proofs.Tryz.f20 = some a20 := by kernel_rfl
def a22 : AFunc := ⟨11, [.tmp 2, .tmp 3],
 (.seq (.region [o 1 (.box (t 0)),
   o 2 (.mv (.const (.string ⟨#[]⟩))),
   o 3 (.mv (.const (.int .i64 0)))])
 (.seq (.region [o 5 (.load true 3 (t 1)),
   o 6 (.call 57 [(t 5)]),
   o 4 (.mv (t 6))])
 (.seq (.seq (.region [o 7 (.mv (t 4)),
   o 8 (.un .not (t 7))])
 (.cond (t 8)
  (.seq (.region [o 2 (.mv (.const (.string ⟨#[]⟩))),
    o 3 (.mv (.const (.int .i64 170)))])
  .ret)
  .skip))
 (.seq (.region [o 9 (.load true 3 (t 1)),
   o 10 (.call 58 [(t 9)]),
   o 2 (.mv (t 10)),
   o 3 (.mv (.const (.int .i64 0)))])
 .ret))))⟩
theorem c22 : compFn Go.Proofs.Tryz.prog Go.Proofs.Tryz.f22 = some a22 := by kernel_rfl
def a23 : AFunc := ⟨16, [.tmp 4, .tmp 5, .tmp 6],
 (.seq (.region [o 4 (.mv (.const (.int .i64 0))),
   o 5 (.mv (.const (.slice none 0 0))),
   o 6 (.mv (.const (.bool false)))])
 (.seq (.region [o 7 (.mv (t 0)),
   o 8 (.nilCheck (t 7)),
   o 9 (.fieldAddr 17 (t 8)),
   o 10 (.load false 1 (t 9)),
   o 11 (.mv (t 1)),
   o 12 (.call 59 [(t 10), (t 11)]),
   o 13 (.extract 0 (t 12)),
   o 14 (.extract 1 (t 12)),
   o 15 (.extract 2 (t 12)),
   o 4 (.mv (t 13)),
   o 5 (.mv (t 14)),
   o 6 (.mv (t 15))])
 .ret))⟩
theorem c23 : compFn Go.Proofs.Tryz.prog Go.Proofs.Tryz.f23 = some a23 := by kernel_rfl
def a24 : AFunc := ⟨8, [.tmp 2],
 (.seq (.region [o 2 (.mv (.const (.bool false)))])
 (.seq (.region [o 3 (.mv (t 0)),
   o 4 (.nilCheck (t 3)),
   o 5 (.fieldAddr 22 (t 4)),
   o 6 (.load false 1 (t 5)),
   o 7 (.un .not (t 6)),
   o 2 (.mv (t 7))])
 .ret))⟩
theorem c24 : compFn Go.Proofs.Tryz.prog Go.Proofs.Tryz.f24 = some a24 := by kernel_rfl
def a25 : AFunc := ⟨6, [.tmp 2],
 (.seq (.region [o 2 (.mv (.const (.pointer none)))])
 (.seq (.region [o 3 (.mv (t 0)),
   o 4 (.build [(.string ⟨#[]⟩), (.int .i64 0), (.int .i64 0)] [(0, 1, (t 3))]),
   o 5 (.box (t 4)),
   o 2 (.mv (t 5))])
 .ret))⟩
theorem c25 : compFn Go.Proofs.Tryz.prog Go.Proofs.Tryz.f25 = some a25 := by kernel_rfl
def a26 : AFunc := ⟨33, [.tmp 4],
 (.seq (.region [o 4 (.mv (.const (.int .i64 0)))])
 (.seq (.region [o 7 (.mv (t 0)),
   o 8 (.nilCheck (t 7)),
   o 9 (.fieldAddr 1 (t 8)),
   o 10 (.load false 1 (t 9)),
   o 5 (.mv (t 10))])
 (.seq (.region [o 11 (.mv (t 0)),
   o 12 (.call 60 [(t 11)]),
   o 6 (.mv (t 12))])
 (.seq (.seq (.region [o 13 (.mv (t 0)),
   o 14 (.nilCheck (t 13)),
   o 15 (.fieldAddr 2 (t 14)),
   o 16 (.load false 1 (t 15)),
   o 17 (.bin .eql (t 16) (.const (.int .i64 0))),
   o 18 (.mv (t 17)),
   ⟨(some 19), (some (18, true)), 0, .mv (t 1)⟩,
   ⟨(some 20), (some (18, true)), 0, .bin .leq (t 19) (.const (.int .i64 0))⟩,
   ⟨(some 21), (some (18, true)), 0, .mv (t 20)⟩,
   ⟨(some 22), (some (21, false)), 0, .mv (t 6)⟩,
   ⟨(some 23), (some (21, false)), 0, .mv (t 1)⟩,
   ⟨(some 24), (some (21, false)), 0, .toInt .u64 (t 23)⟩,
   ⟨(some 25), (some (21, false)), 0, .bin .geq (t 22) (t 24)⟩,
   ⟨(some 26), (some (18, true)), 0, .pick (t 21) (.const (.bool true)) (t 25)⟩,
   o 27 (.pick (t 18) (t 26) (.const (.bool false)))])
 (.cond (t 27)
  (.seq (.region [o 28 (.mv (t 0)),
    o 29 (.mv (t 5)),
    o 30 (.call 61 [(t 28), (t 29), (.const (.int .i64 22))])])
  (.seq (.region [o 4 (.mv (.const (.int .i64 0)))])
  .ret))
  .skip))
 (.seq (.region [o 31 (.mv (t 6)),
   o 32 (.toInt .i64 (t 31)),
   o 4 (.mv (t 32))])
 .ret)))))⟩
theorem c26 : compFn Go.Proofs.Tryz.prog Go.Proofs.Tryz.f26 = some a26 := by kernel_rfl
def a27 : AFunc := ⟨7, [.tmp 2],
 (.seq (.region [o 2 (.mv (.const (.int .i64 0)))])
 (.seq (.region [o 3 (.mv (t 0)),
   o 4 (.nilCheck (t 3)),
   o 5 (.fieldAddr 2 (t 4)),
   o 6 (.load false 1 (t 5)),
   o 2 (.mv (t 6))])
 .ret))⟩
theorem c27 : compFn Go.Proofs.Tryz.prog Go.Proofs.Tryz.f27 = some a27 := by kernel_rfl
def a28 : AFunc := ⟨24, [.tmp 2],
 (.seq (.region [o 2 (.mv (.const (.int .i64 0)))])
 (.seq (.seq (.draw [o 3 (.mv (t 0)),
   ⟨(some 4), none, 1, .nilCheck (t 3)⟩,
   ⟨(some 5), none, 3, .fieldAddr 2 (t 4)⟩,
   ⟨(some 6), none, 7, .load false 1 (t 5)⟩,
   ⟨(some 7), none, 15, .bin .eql (t 6) (.const (.int .i64 0))⟩,
   ⟨(some 8), none, 31, .mv (t 7)⟩,
   ⟨(some 9), (some (8, true)), 63, .mv (t 0)⟩,
   ⟨(some 10), (some (8, true)), 127, .nilCheck (t 9)⟩,
   ⟨(some 11), (some (8, true)), 255, .fieldAddr 1 (t 10)⟩,
   ⟨(some 12), (some (8, true)), 511, .load false 1 (t 11)⟩,
   ⟨(some 13), (some (8, true)), 63, .mv (t 0)⟩,
   ⟨(some 14), (some (8, true)), 1087, .nilCheck (t 13)⟩,
   ⟨(some 15), (some (8, true)), 3135, .fieldAddr 0 (t 14)⟩,
   ⟨(some 16), (some (8, true)), 7231, .load false 1 (t 15)⟩,
   ⟨(some 17), (some (8, true)), 15423, .lenStr (t 16)⟩,
   ⟨(some 18), (some (8, true)), 32767, .bin .lss (t 12) (t 17)⟩,
   ⟨(some 19), none, 65535, .pick (t 8) (t 18) (.const (.bool false))⟩])
 (.cond (t 19)
  (.seq (.region [o 2 (.mv (.const (.int .i64 23)))])
  .ret)
  .skip))
 (.seq (.region [o 20 (.mv (t 0)),
   o 21 (.nilCheck (t 20)),
   o 22 (.fieldAddr 2 (t 21)),
   o 23 (.load false 1 (t 22)),
   o 2 (.mv (t 23))])
 .ret)))⟩
theorem c28 : compFn Go.Proofs.Tryz.prog Go.Proofs.Tryz.f28 = some a28 := by kernel_rfl
def a31 : AFunc := ⟨8, [.tmp 4],
 (.seq (.region [o 4 (.mv (.const (.string ⟨#[]⟩)))])
 (.seq (.region [o 5 (.mv (t 0)),
   o 6 (.mv (t 1)),
   o 7 (.call 64 [(t 5), (t 6), (.const (.func (.func 65) #[] #[]))]),
   o 4 (.mv (t 7))])
 .ret))⟩
theorem c31 : compFn Go.Proofs.Tryz.prog Go.Proofs.Tryz.f31 = some a31 := by kernel_rfl
def a32 : AFunc := ⟨26, [.tmp 4],
 (.seq (.region [o 4 (.mv (.const (.string ⟨#[]⟩)))])
 (.seq (.region [o 5 (.mv (.const (.slice none 0 0)))])
 (.seq (.block 0
  (.loop
   (.seq (.seq (.region [o 6 (.mv (t 1)),
     o 7 (.bin .geq (t 6) (.const (.int .u64 128)))])
   (.cond (t 7)
    .skip
    (.exit 0)))
   (.block 1
    (.seq (.region [o 8 (.mv (t 5)),
      o 9 (.mv (t 1)),
      o 10 (.bin .rem (t 9) (.const (.int .u64 128))),
      o 11 (.bin .add (.const (.int .u64 128)) (t 10)),
      o 12 (.toInt .u8 (t 11)),
      o 13 (.buildSlice 1 1 [(.int .u8 0)] [(0, 1, (t 12))]),
      o 14 (.append 1 1 [(.int .u8 0)] (t 8) (t 13)),
      o 5 (.mv (t 14))])
    (.region [o 15 (.mv (t 1)),
      o 16 (.bin .quo (t 15) (.const (.int .u64 128))),
      o 1 (.mv (t 16))]))))))
 (.seq (.region [o 17 (.mv (t 5)),
   o 18 (.mv (t 1)),
   o 19 (.toInt .u8 (t 18)),
   o 20 (.buildSlice 1 1 [(.int .u8 0)] [(0, 1, (t 19))]),
   o 21 (.append 1 1 [(.int .u8 0)] (t 17) (t 20)),
   o 5 (.mv (t 21))])
 (.seq (.region [o 22 (.mv (t 0)),
   o 23 (.mv (t 5)),
   o 24 (.bytesToStr (t 23)),
   o 25 (.bin .add (t 22) (t 24)),
   o 4 (.mv (t 25))])
 .ret)))))⟩
theorem c32 : compFn Go.Proofs.Tryz.prog Go.Proofs.Tryz.f32 = some a32 := by kernel_rfl
def a33 : AFunc := ⟨57, [.tmp 8, .tmp 9],
 (.seq (.region [o 5 (.box (t 1)),
   o 8 (.mv (.const (.int .i64 0))),
   o 9 (.mv (.const (.int .i64 0)))])
 (.seq (.region [o 15 (.mv (t 3)),
   o 16 (.call 35 [(t 15), (.const (.string ⟨#[108, 105, 102, 101]⟩))]),
   o 14 (.mv (t 16)),
   o 17 (.extract 0 (t 14)),
   o 18 (.extract 1 (t 14)),
   o 10 (.mv (t 17)),
   o 11 (.mv (t 18))])
 (.seq (.region [o 19 (.mv (t 10)),
   o 20 (.call 25 [(t 19)]),
   o 12 (.mv (t 20))])
 (.seq (.region [o 21 (.mv (t 12)),
   o 22 (.call 26 [(t 21), (.const (.int .i64 2147483648))]),
   o 13 (.mv (t 22))])
 (.seq (.block 0
  (.seq (.region [o 24 (.mv (t 11)),
    o 25 (.bin .eql (t 24) (.const (.int .i64 41))),
    o 23 (.mv (t 25))])
  (.cond (t 23)
   (.seq (.region [o 26 (.mv (t 11)),
     o 8 (.mv (.const (.int .i64 0))),
     o 9 (.mv (t 26))])
   .ret)
   (.seq (.region [o 28 (.mv (t 11)),
     o 29 (.bin .eql (t 28) (.const (.int .i64 0))),
     o 30 (.mv (t 29)),
     ⟨(some 31), (some (30, true)), 0, .mv (t 12)⟩,
     ⟨(some 32), (some (30, true)), 0, .call 28 [(t 31)]⟩,
     ⟨(some 33), (some (30, true)), 0, .bin .eql (t 32) (.const (.int .i64 0))⟩,
     o 34 (.pick (t 30) (t 33) (.const (.bool false))),
     o 35 (.mv (t 34)),
     ⟨(some 36), (some (35, true)), 0, .mv (t 13)⟩,
     ⟨(some 37), (some (35, true)), 0, .fieldAddr 1 (t 5)⟩,
     ⟨(some 38), (some (35, true)), 0, .load false 1 (t 37)⟩,
     ⟨(some 39), (some (35, true)), 0, .bin .rem (t 36) (t 38)⟩,
     ⟨(some 40), (some (35, true)), 0, .mv (t 0)⟩,
     ⟨(some 41), (some (35, true)), 0, .bin .eql (t 39) (t 40)⟩,
     o 42 (.pick (t 35) (t 41) (.const (.bool false))),
     o 27 (.mv (t 42))])
   (.cond (t 27)
    (.seq (.region [o 43 (.mv (t 13)),
      o 8 (.mv (t 43)),
      o 9 (.mv (.const (.int .i64 0)))])
    .ret)
    .skip)))))
 (.seq (.region [o 44 (.mv (t 0)),
   o 45 (.fieldAddr 1 (t 5)),
   o 46 (.load false 1 (t 45)),
   o 47 (.mv (t 2)),
   o 48 (.bin .mul (t 46) (t 47)),
   o 49 (.bin .add (t 44) (t 48)),
   o 13 (.mv (t 49))])
 (.seq (.region [o 50 (.mv (t 13)),
   o 51 (.mv (t 3)),
   o 52 (.mv (t 13)),
   o 53 (.toInt .u64 (t 52)),
   o 54 (.buildSlice 1 1 [(.int .u64 0)] [(0, 1, (t 53))]),
   o 55 (.call 31 [(.const (.string ⟨#[]⟩)), (t 54)]),
   o 56 (.call 66 [(t 51), (.const (.string ⟨#[108, 105, 102, 101]⟩)), (t 55)]),
   o 8 (.mv (t 50)),
   o 9 (.mv (t 56))])
 .ret)))))))⟩
theorem c33 : compFn Go.Proofs.Tryz.prog Go.Proofs.Tryz.f33 = some a33 := by kernel_rfl
def a34 : AFunc := ⟨33, [.tmp 2, .tmp 3],
 (.seq (.region [o 2 (.mv (.const (.pointer none))),
   o 3 (.mv (.const (.int .i64 0)))])
 (.seq (.region [o 9 (.mv (t 0)),
   o 10 (.mkMap),
   o 11 (.build [(.pointer none), (.map none)] [(0, 1, (t 9)), (1, 1, (t 10))]),
   o 12 (.box (t 11)),
   o 4 (.mv (t 12))])
 (.seq (.seq (.region [o 13 (.mv (t 0)),
   o 14 (.call 55 [(t 13)]),
   o 15 (.lenSl (t 14)),
   o 16 (.mv (.const (.int .i64 0)))])
 (.block 0
  (.loop
   (.seq (.region [o 17 (.bin .lss (t 16) (t 15))])
   (.seq (.cond (t 17)
    .skip
    (.exit 0))
   (.seq (.block 1
    (.seq (.region [o 18 (.indexSl 1 (t 14) (t 16)),
      o 19 (.load false 1 (t 18)),
      o 6 (.mv (t 19))])
    (.seq (.region [o 20 (.mv (t 6)),
      o 21 (.call 67 [(t 20)]),
      o 7 (.mv (t 21))])
    (.seq (.seq (.region [o 22 (.mv (t 7)),
      o 23 (.bin .eql (t 22) (.const (.int .i64 0)))])
    (.cond (t 23)
     (.exit 1)
     .skip))
    (.seq (.region [o 24 (.mv (t 4)),
      o 25 (.mv (t 6)),
      o 26 (.mv (t 7)),
      o 27 (.call 68 [(t 24), (t 25), (t 26)]),
      o 8 (.mv (t 27))])
    (.seq (.region [o 28 (.mv (t 8)),
      o 29 (.bin .neq (t 28) (.const (.int .i64 0)))])
    (.cond (t 29)
     (.seq (.region [o 30 (.mv (t 8)),
       o 2 (.mv (.const (.pointer none))),
       o 3 (.mv (t 30))])
     .ret)
     .skip)))))))
   (.region [o 31 (.bin .add (t 16) (.const (.int .i64 1))),
     o 16 (.mv (t 31))])))))))
 (.seq (.region [o 32 (.mv (t 4)),
   o 2 (.mv (t 32)),
   o 3 (.mv (.const (.int .i64 0)))])
 .ret))))⟩
theorem c34 : compFn Go.Proofs.Tryz.prog Go.Proofs.Tryz.f34 = some a34 := by kernel_rfl
def a35 : AFunc := ⟨25, [.tmp 4, .tmp 5],
 (.seq (.region [o 4 (.mv (.const (.string ⟨#[]⟩))),
   o 5 (.mv (.const (.int .i64 0)))])
 (.seq (.region [o 7 (.mv (t 0)),
   o 8 (.nilCheck (t 7)),
   o 9 (.fieldAddr 2 (t 8)),
   o 10 (.load false 1 (t 9)),
   o 11 (.mv (t 1)),
   o 12 (.lookup .str (.pointer none) false (t 10) (t 11)),
   o 6 (.mv (t 12))])
 (.seq (.block 0
  (.seq (.region [o 14 (.mv (t 0)),
    o 15 (.nilCheck (t 14)),
    o 16 (.fieldAddr 3 (t 15)),
    o 17 (.load false 1 (t 16)),
    o 13 (.mv (t 17))])
  (.cond (t 13)
   (.seq (.region [o 4 (.mv (.const (.string ⟨#[]⟩))),
     o 5 (.mv (.const (.int .i64 41)))])
   .ret)
   (.seq (.region [o 19 (.mv (t 6)),
     o 20 (.eqNil .ptr false (t 19) (.const (.pointer none))),
     o 18 (.mv (t 20))])
   (.cond (t 18)
    (.seq (.region [o 4 (.mv (.const (.string ⟨#[]⟩))),
      o 5 (.mv (.const (.int .i64 42)))])
    .ret)
    .skip)))))
 (.seq (.region [o 21 (.mv (t 6)),
   o 22 (.nilCheck (t 21)),
   o 23 (.fieldAddr 0 (t 22)),
   o 24 (.load false 1 (t 23)),
   o 4 (.mv (t 24)),
   o 5 (.mv (.const (.int .i64 0)))])
 .ret))))⟩
theorem c35 : compFn Go.Proofs.Tryz.prog Go.Proofs.Tryz.f35 = some a35 := by kernel_rfl
def a36 : AFunc := ⟨30, [.tmp 4],
 (.seq (.region [o 4 (.mv (.const (.slice none 0 0)))])
 (.seq (.seq (.region [o 5 (.mv (t 0)),
   o 6 (.nilCheck (t 5)),
   o 7 (.fieldAddr 22 (t 6)),
   o 8 (.load false 1 (t 7))])
 (.cond (t 8)
  (.seq (.region [o 4 (.mv (.const (.slice none 0 0)))])
  .ret)
  .skip))
 (.seq (.region [o 9 (.mv (t 0)),
   o 10 (.nilCheck (t 9)),
   o 11 (.fieldAddr 23 (t 10)),
   ⟨none, none, 0, .store 1 (t 11) (.const (.slice none 0 0))⟩])
 (.seq (.region [o 12 (.mv (t 1)),
   o 13 (.callV (t 12) [])])
 (.seq (.seq (.region [o 14 (.mv (t 0)),
   o 15 (.mv (t 0)),
   o 16 (.nilCheck (t 15)),
   o 17 (.fieldAddr 16 (t 16)),
   o 18 (.load false 1 (t 17)),
   o 19 (.call 69 [(t 18)]),
   o 20 (.nilCheck (t 14)),
   o 21 (.fieldAddr 22 (t 20)),
   ⟨none, none, 0, .store 1 (t 21) (t 19)⟩])
 (.seq (.region [o 22 (.mv (t 0)),
   o 23 (.nilCheck (t 22)),
   o 24 (.fieldAddr 22 (t 23)),
   o 25 (.load false 1 (t 24))])
 (.cond (t 25)
  (.seq (.region [o 4 (.mv (.const (.slice none 0 0)))])
  .ret)
  .skip)))
 (.seq (.region [o 26 (.mv (t 0)),
   o 27 (.nilCheck (t 26)),
   o 28 (.fieldAddr 23 (t 27)),
   o 29 (.load false 1 (t 28)),
   o 4 (.mv (t 29))])
 .ret))))))⟩
theorem c36 : compFn Go.Proofs.Tryz.prog Go.Proofs.Tryz.f36 = some a36 := by kernel_rfl
def a37 : AFunc := ⟨24, [],
 (.seq (.seq (.region [o 2 (.load false 1 (t 0)),
   o 3 (.load true 11 (t 1)),
   o 4 (.call 38 [(t 2), (t 3)]),
   o 5 (.un .not (t 4))])
 (.cond (t 5)
  .ret
  .skip))
 (.seq (.region [o 6 (.load false 1 (t 0)),
   o 7 (.load true 11 (t 1)),
   o 8 (.call 39 [(t 6), (t 7)])])
 (.block 0
  (.seq (.region [o 10 (.bin .eql (t 8) (.const (.int .i64 1))),
    o 9 (.mv (t 10))])
  (.cond (t 9)
   (.region [o 11 (.load false 1 (t 0)),
     o 12 (.load true 11 (t 1)),
     o 13 (.call 40 [(t 11), (t 12)])])
   (.seq (.region [o 15 (.bin .eql (t 8) (.const (.int .i64 2))),
     o 14 (.mv (t 15))])
   (.cond (t 14)
    (.region [o 16 (.load false 1 (t 0)),
      o 17 (.load true 11 (t 1)),
      o 18 (.call 41 [(t 16), (t 17)])])
    (.seq (.region [o 20 (.bin .eql (t 8) (.const (.int .i64 3))),
      o 19 (.mv (t 20))])
    (.cond (t 19)
     (.region [o 21 (.load false 1 (t 0)),
       o 22 (.load true 11 (t 1)),
       o 23 (.call 42 [(t 21), (t 22)])])
     .skip)))))))))⟩
theorem c37 : compFn Go.Proofs.Tryz.prog Go.Proofs.Tryz.f37 = some a37 := by kernel_rfl
def a38 : AFunc := ⟨48, [.tmp 4],
 (.seq (.region [o 3 (.box (t 1)),
   o 4 (.mv (.const (.bool false)))])
 (.seq (.draw [o 5 (.fieldAddr 2 (t 3)),
   ⟨(some 6), none, 1, .load false 1 (t 5)⟩,
   o 7 (.mv (t 0)),
   ⟨(some 8), none, 4, .nilCheck (t 7)⟩,
   ⟨(some 9), none, 12, .fieldAddr 2 (t 8)⟩,
   ⟨(some 10), none, 28, .fieldAddr 0 (t 9)⟩,
   ⟨(some 11), none, 60, .load false 1 (t 10)⟩,
   o 12 (.mv (t 0)),
   ⟨(some 13), none, 128, .nilCheck (t 12)⟩,
   ⟨(some 14), none, 384, .fieldAddr 0 (t 13)⟩,
   ⟨(some 15), none, 896, .load false 1 (t 14)⟩,
   ⟨(some 16), none, 2044, .bin .add (t 11) (t 15)⟩,
   ⟨(some 17), none, 4095, .bin .eql (t 6) (t 16)⟩,
   ⟨(some 18), none, 8191, .mv (t 17)⟩,
   ⟨(some 19), (some (18, true)), 16383, .fieldAddr 4 (t 3)⟩,
   ⟨(some 20), (some (18, true)), 32767, .load false 1 (t 19)⟩,
   ⟨(some 21), (some (18, true)), 65535, .bin .leq (.const (.int .i64 0)) (t 20)⟩,
   ⟨(some 22), none, 131071, .pick (t 18) (t 21) (.const (.bool false))⟩,
   ⟨(some 23), none, 262143, .mv (t 22)⟩,
   ⟨(some 24), (some (23, true)), 524287, .fieldAddr 4 (t 3)⟩,
   ⟨(some 25), (some (23, true)), 1048575, .load false 1 (t 24)⟩,
   ⟨(some 26), (some (23, true)), 2097151, .bin .leq (t 25) (.const (.int .i64 2147483647))⟩,
   ⟨(some 27), none, 4194303, .pick (t 23) (t 26) (.const (.bool false))⟩,
   ⟨(some 28), none, 8388607, .mv (t 27)⟩,
   ⟨(some 29), (some (28, true)), 16777215, .fieldAddr 5 (t 3)⟩,
   ⟨(some 30), (some (28, true)), 33554431, .load false 1 (t 29)⟩,
   ⟨(some 31), (some (28, true)), 67108863, .bin .leq (.const (.int .i64 0)) (t 30)⟩,
   ⟨(some 32), none, 134217727, .pick (t 28) (t 31) (.const (.bool false))⟩,
   ⟨(some 33), none, 268435455, .mv (t 32)⟩,
   ⟨(some 34), (some (33, true)), 536870911, .fieldAddr 5 (t 3)⟩,
   ⟨(some 35), (some (33, true)), 1073741823, .load false 1 (t 34)⟩,
   ⟨(some 36), (some (33, true)), 2147483647, .bin .leq (t 35) (.const (.int .i64 1073741824))⟩,
   ⟨(some 37), none, 4294967295, .pick (t 33) (t 36) (.const (.bool false))⟩,
   ⟨(some 38), none, 8589934591, .mv (t 37)⟩,
   ⟨(some 39), (some (38, true)), 17179869183, .fieldAddr 6 (t 3)⟩,
   ⟨(some 40), (some (38, true)), 34359738367, .load false 1 (t 39)⟩,
   ⟨(some 41), (some (38, true)), 68719476735, .bin .leq (.const (.int .i64 (-1))) (t 40)⟩,
   ⟨(some 42), none, 137438953471, .pick (t 38) (t 41) (.const (.bool false))⟩,
   ⟨(some 43), none, 274877906943, .mv (t 42)⟩,
   ⟨(some 44), (some (43, true)), 549755813887, .fieldAddr 6 (t 3)⟩,
   ⟨(some 45), (some (43, true)), 1099511627775, .load false 1 (t 44)⟩,
   ⟨(some 46), (some (43, true)), 2199023255551, .bin .lss (t 45) (.const (.int .i64 2147483647))⟩,
   ⟨(some 47), none, 4398046511103, .pick (t 43) (t 46) (.const (.bool false))⟩,
   ⟨(some 4), none, 8796093022207, .mv (t 47)⟩])
 .ret))⟩
theorem c38 : compFn Go.Proofs.Tryz.prog Go.Proofs.Tryz.f38 = some a38 := by kernel_rfl
def a39 : AFunc := ⟨44, [.tmp 4],
 (.seq (.region [o 3 (.box (t 1)),
   o 4 (.mv (.const (.int .i64 0)))])
 (.seq (.seq (.draw [o 7 (.mv (t 0)),
   ⟨(some 8), none, 1, .nilCheck (t 7)⟩,
   ⟨(some 9), none, 3, .fieldAddr 2 (t 8)⟩,
   ⟨(some 10), none, 7, .fieldAddr 0 (t 9)⟩,
   ⟨(some 11), none, 15, .load false 1 (t 10)⟩,
   o 12 (.mv (t 0)),
   ⟨(some 13), none, 32, .nilCheck (t 12)⟩,
   ⟨(some 14), none, 96, .fieldAddr 2 (t 13)⟩,
   ⟨(some 15), none, 224, .fieldAddr 0 (t 14)⟩,
   ⟨(some 16), none, 480, .load false 1 (t 15)⟩,
   o 17 (.mv (t 0)),
   ⟨(some 18), none, 1024, .nilCheck (t 17)⟩,
   ⟨(some 19), none, 3072, .fieldAddr 2 (t 18)⟩,
   ⟨(some 20), none, 7168, .fieldAddr 1 (t 19)⟩,
   ⟨(some 21), none, 15360, .load false 1 (t 20)⟩,
   ⟨(some 22), none, 32736, .bin .add (t 16) (t 21)⟩,
   ⟨(some 5), none, 31, .mv (t 11)⟩,
   ⟨(some 6), none, 131071, .mv (t 22)⟩])
 (.block 0
  (.seq (.region [o 24 (.fieldAddr 1 (t 3)),
    o 25 (.load false 1 (t 24)),
    o 26 (.bin .lss (t 25) (.const (.int .i64 0))),
    o 27 (.mv (t 26)),
    ⟨(some 28), (some (27, false)), 0, .fieldAddr 1 (t 3)⟩,
    ⟨(some 29), (some (27, false)), 0, .load false 1 (t 28)⟩,
    ⟨(some 30), (some (27, false)), 0, .fieldAddr 2 (t 3)⟩,
    ⟨(some 31), (some (27, false)), 0, .load false 1 (t 30)⟩,
    ⟨(some 32), (some (27, false)), 0, .bin .eql (t 29) (t 31)⟩,
    o 33 (.pick (t 27) (.const (.bool true)) (t 32)),
    o 23 (.mv (t 33))])
  (.cond (t 23)
   (.seq (.region [o 4 (.mv (.const (.int .i64 0)))])
   .ret)
   (.seq (.region [o 35 (.fieldAddr 1 (t 3)),
     o 36 (.load false 1 (t 35)),
     o 37 (.mv (t 5)),
     o 38 (.bin .lss (t 36) (t 37)),
     o 34 (.mv (t 38))])
   (.cond (t 34)
    (.seq (.region [o 4 (.mv (.const (.int .i64 1)))])
    .ret)
    (.seq (.region [o 40 (.fieldAddr 1 (t 3)),
      o 41 (.load false 1 (t 40)),
      o 42 (.mv (t 6)),
      o 43 (.bin .lss (t 41) (t 42)),
      o 39 (.mv (t 43))])
    (.cond (t 39)
     (.seq (.region [o 4 (.mv (.const (.int .i64 2)))])
     .ret)
     .skip))))))))
 (.seq (.region [o 4 (.mv (.const (.int .i64 3)))])
 .ret)))⟩
theorem c39 : compFn Go.Proofs.Tryz.prog Go.Proofs.Tryz.f39 = some a39 := by kernel_rfl
def a40 : AFunc := ⟨63, [],
 (.seq (.region [o 3 (.box (t 1))])
 (.seq (.region [o 7 (.fieldAddr 0 (t 3)),
   o 8 (.load false 1 (t 7))])
 (.block 0
  (.seq (.region [o 10 (.bin .eql (t 8) (.const (.int .u8 9))),
    o 9 (.mv (t 10))])
  (.cond (t 9)
   (.region [o 11 (.mv (t 0)),
     o 12 (.load true 11 (t 3)),
     o 13 (.call 70 [(t 11), (t 12)])])
   (.seq (.region [o 15 (.bin .eql (t 8) (.const (.int .u8 8))),
     o 14 (.mv (t 15))])
   (.cond (t 14)
    (.region [o 16 (.mv (t 0)),
      o 17 (.load true 11 (t 3)),
      o 18 (.call 71 [(t 16), (t 17)])])
    (.seq (.region [o 20 (.bin .eql (t 8) (.const (.int .u8 11))),
      o 19 (.mv (t 20))])
    (.cond (t 19)
     (.seq (.region [o 22 (.mv (t 0)),
       o 23 (.fieldAddr 4 (t 3)),
       o 24 (.load false 1 (t 23)),
       o 25 (.call 23 [(t 22), (t 24)]),
       o 21 (.mv (t 25)),
       o 26 (.extract 0 (t 21)),
       o 27 (.extract 1 (t 21)),
       o 28 (.extract 2 (t 21)),
       o 4 (.mv (t 26)),
       o 5 (.mv (t 27)),
       o 6 (.mv (t 28))])
     (.seq (.draw [o 29 (.mv (t 6)),
       ⟨(some 30), none, 1, .mv (t 29)⟩,
       ⟨(some 31), (some (30, true)), 3, .fieldAddr 3 (t 3)⟩,
       ⟨(some 32), (some (30, true)), 7, .load false 1 (t 31)⟩,
       ⟨(some 33), (some (30, true)), 3, .mv (t 0)⟩,
       ⟨(some 34), (some (30, true)), 19, .nilCheck (t 33)⟩,
       ⟨(some 35), (some (30, true)), 51, .fieldAddr 1 (t 34)⟩,
       ⟨(some 36), (some (30, true)), 115, .load false 1 (t 35)⟩,
       ⟨(some 37), (some (30, true)), 255, .bin .eql (t 32) (t 36)⟩,
       ⟨(some 38), none, 511, .pick (t 30) (t 37) (.const (.bool false))⟩,
       ⟨(some 39), none, 1023, .mv (t 38)⟩,
       ⟨(some 40), (some (39, true)), 2047, .mv (t 4)⟩,
       ⟨(some 41), (some (39, true)), 2047, .fieldAddr 5 (t 3)⟩,
       ⟨(some 42), (some (39, true)), 6143, .load false 1 (t 41)⟩,
       ⟨(some 43), (some (39, true)), 16383, .bin .leq (t 40) (t 42)⟩,
       ⟨(some 44), none, 32767, .pick (t 39) (t 43) (.const (.bool false))⟩])
     (.cond (t 44)
      (.seq (.region [o 45 (.mv (t 0)),
        o 46 (.fieldAddr 4 (t 3)),
        o 47 (.load false 1 (t 46)),
        o 48 (.fieldAddr 5 (t 3)),
        o 49 (.load false 1 (t 48)),
        o 50 (.call 72 [(t 45), (t 47), (t 49)]),
        o 51 (.bin .eql (t 50) (.const (.int .i64 0)))])
      (.cond (t 51)
       (.seq (.draw [o 52 (.mv (t 0)),
         ⟨(some 53), none, 1, .nilCheck (t 52)⟩,
         ⟨(some 54), none, 3, .fieldAddr 17 (t 53)⟩,
         ⟨(some 55), none, 7, .load false 1 (t 54)⟩,
         o 56 (.fieldAddr 4 (t 3)),
         ⟨(some 57), none, 16, .load false 1 (t 56)⟩,
         ⟨(some 58), none, 63, .call 73 [(t 55), (t 57)]⟩])
       (.region [o 59 (.mv (t 0)),
         o 60 (.fieldAddr 4 (t 3)),
         o 61 (.load false 1 (t 60)),
         o 62 (.call 74 [(t 59), (t 61)])]))
       .skip))
      .skip)))
     .skip)))))))))⟩
theorem c40 : compFn Go.Proofs.Tryz.prog Go.Proofs.Tryz.f40 = some a40 := by kernel_rfl
def a41 : AFunc := ⟨32, [],
 (.seq (.region [o 3 (.box (t 1))])
 (.seq (.draw [o 5 (.fieldAddr 3 (t 3)),
   ⟨(some 6), none, 1, .load false 1 (t 5)⟩,
   o 7 (.mv (t 0)),
   ⟨(some 8), none, 4, .nilCheck (t 7)⟩,
   ⟨(some 9), none, 12, .fieldAddr 1 (t 8)⟩,
   ⟨(some 10), none, 28, .load false 1 (t 9)⟩,
   ⟨(some 11), none, 63, .bin .eql (t 6) (t 10)⟩,
   ⟨(some 4), none, 127, .mv (t 11)⟩])
 (.seq (.region [o 12 (.fieldAddr 0 (t 3)),
   o 13 (.load false 1 (t 12))])
 (.block 0
  (.seq (.seq (.region [o 15 (.bin .eql (t 13) (.const (.int .u8 13))),
    o 14 (.mv (t 15))])
  (.cond (t 14)
   .skip
   (.region [o 16 (.bin .eql (t 13) (.const (.int .u8 15))),
     o 14 (.mv (t 16))])))
  (.cond (t 14)
   (.region [o 17 (.mv (t 0)),
     o 18 (.load true 11 (t 3)),
     o 19 (.call 75 [(t 17), (t 18)])])
   (.seq (.region [o 21 (.bin .eql (t 13) (.const (.int .u8 12))),
     o 20 (.mv (t 21))])
   (.cond (t 20)
    (.seq (.region [o 22 (.mv (t 4))])
    (.cond (t 22)
     (.region [o 23 (.mv (t 0)),
       o 24 (.load true 11 (t 3)),
       o 25 (.call 76 [(t 23), (t 24)])])
     .skip))
    (.seq (.region [o 27 (.bin .eql (t 13) (.const (.int .u8 14))),
      o 26 (.mv (t 27))])
    (.cond (t 26)
     (.seq (.region [o 28 (.mv (t 4))])
     (.cond (t 28)
      (.region [o 29 (.mv (t 0)),
        o 30 (.load true 11 (t 3)),
        o 31 (.call 77 [(t 29), (t 30)])])
      .skip))
     .skip))))))))))⟩
theorem c41 : compFn Go.Proofs.Tryz.prog Go.Proofs.Tryz.f41 = some a41 := by kernel_rfl
def a42 : AFunc := ⟨16, [],
 (.seq (.region [o 3 (.box (t 1))])
 (.seq (.region [o 4 (.fieldAddr 0 (t 3)),
   o 5 (.load false 1 (t 4))])
 (.block 0
  (.seq (.region [o 7 (.bin .eql (t 5) (.const (.int .u8 18))),
    o 6 (.mv (t 7))])
  (.cond (t 6)
   (.region [o 8 (.mv (t 0)),
     o 9 (.load true 11 (t 3)),
     o 10 (.call 78 [(t 8), (t 9)])])
   (.seq (.region [o 12 (.bin .eql (t 5) (.const (.int .u8 20))),
     o 11 (.mv (t 12))])
   (.cond (t 11)
    (.region [o 13 (.mv (t 0)),
      o 14 (.load true 11 (t 3)),
      o 15 (.call 79 [(t 13), (t 14)])])
    .skip)))))))⟩
theorem c42 : compFn Go.Proofs.Tryz.prog Go.Proofs.Tryz.f42 = some a42 := by kernel_rfl
def a43 : AFunc := ⟨39, [.tmp 2],
 (.seq (.region [o 2 (.mv (.const (.slice none 0 0)))])
 (.seq (.region [o 3 (.mv (.const (.slice none 0 0)))])
 (.seq (.seq (.region [o 6 (.mv (t 0)),
   o 7 (.nilCheck (t 6)),
   o 8 (.fieldAddr 1 (t 7)),
   o 9 (.load false 1 (t 8)),
   o 10 (.call 80 [(t 9)]),
   o 11 (.call 48 [(t 10)]),
   o 12 (.lenSl (t 11)),
   o 13 (.mv (.const (.int .i64 0)))])
 (.block 0
  (.loop
   (.seq (.region [o 14 (.bin .lss (t 13) (t 12))])
   (.seq (.cond (t 14)
    .skip
    (.exit 0))
   (.seq (.block 1
    (.seq (.region [o 15 (.indexSl 1 (t 11) (t 13)),
      o 16 (.load false 1 (t 15)),
      o 5 (.mv (t 16))])
    (.draw [o 17 (.mv (t 3)),
      o 18 (.mv (t 5)),
      o 19 (.mv (t 0)),
      ⟨(some 20), none, 4, .nilCheck (t 19)⟩,
      ⟨(some 21), none, 12, .fieldAddr 1 (t 20)⟩,
      ⟨(some 22), none, 28, .load false 1 (t 21)⟩,
      o 23 (.mv (t 5)),
      ⟨(some 24), none, 124, .lookup .int (.agg #[(.int .i64 0), (.slice none 0 0)]) false (t 22) (t 23)⟩,
      ⟨(some 25), none, 252, .field false 0 1 (t 24)⟩,
      o 26 (.mv (t 0)),
      ⟨(some 27), none, 512, .nilCheck (t 26)⟩,
      ⟨(some 28), none, 1536, .fieldAddr 1 (t 27)⟩,
      ⟨(some 29), none, 3584, .load false 1 (t 28)⟩,
      o 30 (.mv (t 5)),
      ⟨(some 31), none, 15872, .lookup .int (.agg #[(.int .i64 0), (.slice none 0 0)]) false (t 29) (t 30)⟩,
      ⟨(some 32), none, 32256, .field false 1 1 (t 31)⟩,
      ⟨(some 33), none, 65024, .lenSl (t 32)⟩,
      ⟨(some 34), none, 131070, .build [(.int .i64 0), (.int .i64 0), (.int .i64 0)] [(0, 1, (t 18)), (1, 1, (t 25)), (2, 1, (t 33))]⟩,
      ⟨(some 35), none, 262142, .buildSlice 3 1 [(.int .i64 0), (.int .i64 0), (.int .i64 0)] [(0, 3, (t 34))]⟩,
      ⟨(some 36), none, 524287, .append 3 24 [(.int .i64 0), (.int .i64 0), (.int .i64 0)] (t 17) (t 35)⟩,
      ⟨(some 3), none, 1048575, .mv (t 36)⟩])))
   (.region [o 37 (.bin .add (t 13) (.const (.int .i64 1))),
     o 13 (.mv (t 37))])))))))
 (.seq (.region [o 38 (.mv (t 3)),
   o 2 (.mv (t 38))])
 .ret))))⟩
theorem c43 : compFn Go.Proofs.Tryz.prog Go.Proofs.Tryz.f43 = some a43 := by kernel_rfl
def a44 : AFunc := ⟨35, [.tmp 4],
 (.seq (.region [o 4 (.mv (.const (.int .i64 0)))])
 (.seq (.seq (.draw [o 5 (.mv (t 1)),
   ⟨(some 6), none, 1, .nilCheck (t 5)⟩,
   ⟨(some 7), none, 3, .fieldAddr 4 (t 6)⟩,
   ⟨(some 8), none, 7, .load false 1 (t 7)⟩,
   ⟨(some 9), none, 15, .un .not (t 8)⟩,
   ⟨(some 10), none, 31, .mv (t 9)⟩,
   ⟨(some 11), (some (10, false)), 63, .mv (t 0)⟩,
   ⟨(some 12), (some (10, false)), 127, .nilCheck (t 11)⟩,
   ⟨(some 13), (some (10, false)), 255, .fieldAddr 19 (t 12)⟩,
   ⟨(some 14), (some (10, false)), 63, .mv (t 1)⟩,
   ⟨(some 15), (some (10, false)), 575, .nilCheck (t 14)⟩,
   ⟨(some 16), (some (10, false)), 1599, .fieldAddr 0 (t 15)⟩,
   ⟨(some 17), (some (10, false)), 3647, .load false 1 (t 16)⟩,
   ⟨(some 18), (some (10, false)), 63, .mv (t 0)⟩,
   ⟨(some 19), (some (10, false)), 8255, .nilCheck (t 18)⟩,
   ⟨(some 20), (some (10, false)), 24639, .fieldAddr 18 (t 19)⟩,
   ⟨(some 21), (some (10, false)), 57407, .load false 1 (t 20)⟩,
   ⟨(some 22), (some (10, false)), 131071, .call 81 [(t 13), (t 17), (t 21)]⟩,
   ⟨(some 23), (some (10, false)), 262143, .un .not (t 22)⟩,
   ⟨(some 24), none, 524287, .pick (t 10) (.const (.bool true)) (t 23)⟩,
   ⟨(some 25), none, 1048575, .mv (t 24)⟩,
   ⟨(some 26), (some (25, false)), 2097151, .mv (t 0)⟩,
   ⟨(some 27), (some (25, false)), 2097151, .mv (t 1)⟩,
   ⟨(some 28), (some (25, false)), 8388607, .call 82 [(t 26), (t 27)]⟩,
   ⟨(some 29), (some (25, false)), 2097151, .mv (t 1)⟩,
   ⟨(some 30), (some (25, false)), 18874367, .nilCheck (t 29)⟩,
   ⟨(some 31), (some (25, false)), 52428799, .fieldAddr 3 (t 30)⟩,
   ⟨(some 32), (some (25, false)), 119537663, .load false 1 (t 31)⟩,
   ⟨(some 33), (some (25, false)), 268435455, .bin .lss (t 28) (t 32)⟩,
   ⟨(some 34), none, 536870911, .pick (t 25) (.const (.bool true)) (t 33)⟩])
 (.cond (t 34)
  (.seq (.region [o 4 (.mv (.const (.int .i64 191)))])
  .ret)
  .skip))
 (.seq (.region [o 4 (.mv (.const (.int .i64 0)))])
 .ret)))⟩
theorem c44 : compFn Go.Proofs.Tryz.prog Go.Proofs.Tryz.f44 = some a44 := by kernel_rfl
def a45 : AFunc := ⟨97, [],
 (.seq (.seq (.region [o 10 (.load false 1 (t 0)),
   o 11 (.nilCheck (t 10)),
   o 12 (.fieldAddr 18 (t 11)),
   o 13 (.load false 1 (t 12)),
   o 14 (.bin .add (t 13) (.const (.int .i64 1))),
   o 15 (.nilCheck (t 10)),
   o 16 (.fieldAddr 18 (t 15)),
   ⟨none, none, 0, .store 1 (t 16) (t 14)⟩])
 (.seq (.region [o 17 (.load false 1 (t 0)),
   o 18 (.nilCheck (t 17)),
   o 19 (.fieldAddr 18 (t 18)),
   o 20 (.load false 1 (t 19)),
   o 21 (.bin .rem (t 20) (.const (.int .i64 2))),
   o 22 (.bin .neq (t 21) (.const (.int .i64 0)))])
 (.cond (t 22)
  .ret
  .skip)))
 (.seq (.region [o 23 (.load false 1 (t 0)),
   o 24 (.call 16 [(t 23)]),
   o 1 (.mv (t 24))])
 (.seq (.draw [o 25 (.load false 1 (t 0)),
   o 26 (.mv (t 1)),
   ⟨(some 27), none, 2, .call 9 [(t 26)]⟩,
   ⟨(some 28), none, 6, .build [(.int .u8 0), (.int .i64 0), (.int .i64 0), (.int .i64 0), (.int .i64 0), (.int .i64 0), (.int .i64 0), (.bool false), (.slice none 0 0), (.slice none 0 0), (.string ⟨#[]⟩)] [(0, 1, (.const (.int .u8 6))), (10, 1, (t 27))]⟩,
   ⟨(some 29), none, 15, .call 46 [(t 25), (t 28)]⟩])
 (.seq (.seq (.region [o 30 (.mv (t 1)),
   o 31 (.lenSl (t 30)),
   o 32 (.mv (.const (.int .i64 0)))])
 (.block 0
  (.loop
   (.seq (.region [o 33 (.bin .lss (t 32) (t 31))])
   (.seq (.cond (t 33)
    .skip
    (.exit 0))
   (.seq (.block 1
    (.seq (.region [o 34 (.indexSl 3 (t 30) (t 32)),
      o 35 (.load true 3 (t 34)),
      o 3 (.alloc [(.int .i64 0), (.int .i64 0), (.int .i64 0)]),
      ⟨none, none, 0, .store 3 (t 3) (t 35)⟩])
    (.seq (.draw [o 36 (.load false 1 (t 0)),
      ⟨(some 37), none, 1, .nilCheck (t 36)⟩,
      ⟨(some 38), none, 3, .fieldAddr 19 (t 37)⟩,
      o 39 (.fieldAddr 0 (t 3)),
      ⟨(some 40), none, 8, .load false 1 (t 39)⟩,
      ⟨(some 41), none, 31, .call 47 [(t 38), (t 40)]⟩,
      o 42 (.load false 1 (t 0)),
      ⟨(some 43), none, 64, .nilCheck (t 42)⟩,
      ⟨(some 44), none, 192, .fieldAddr 18 (t 43)⟩,
      ⟨(some 45), none, 448, .load false 1 (t 44)⟩,
      o 46 (.load false 1 (t 0)),
      ⟨(some 47), none, 1024, .nilCheck (t 46)⟩,
      ⟨(some 48), none, 3072, .fieldAddr 2 (t 47)⟩,
      ⟨(some 49), none, 7168, .fieldAddr 5 (t 48)⟩,
      ⟨(some 50), none, 15360, .load false 1 (t 49)⟩,
      ⟨(some 51), none, 31744, .bin .quo (t 50) (.const (.int .i64 2))⟩,
      ⟨(some 52), none, 65472, .bin .add (t 45) (t 51)⟩,
      ⟨(some 53), none, 131071, .bin .leq (t 41) (t 52)⟩])
    (.cond (t 53)
     (.draw [o 54 (.load false 1 (t 0)),
       o 55 (.fieldAddr 0 (t 3)),
       ⟨(some 56), none, 2, .load false 1 (t 55)⟩,
       o 57 (.fieldAddr 1 (t 3)),
       ⟨(some 58), none, 8, .load false 1 (t 57)⟩,
       o 59 (.load false 1 (t 0)),
       ⟨(some 60), none, 32, .nilCheck (t 59)⟩,
       ⟨(some 61), none, 96, .fieldAddr 18 (t 60)⟩,
       ⟨(some 62), none, 224, .load false 1 (t 61)⟩,
       ⟨(some 63), none, 510, .build [(.int .u8 0), (.int .i64 0), (.int .i64 0), (.int .i64 0), (.int .i64 0), (.int .i64 0), (.int .i64 0), (.bool false), (.slice none 0 0), (.slice none 0 0), (.string ⟨#[]⟩)] [(0, 1, (.const (.int .u8 7))), (4, 1, (t 56)), (5, 1, (t 58)), (6, 1, (t 62))]⟩,
       ⟨(some 64), none, 1023, .call 46 [(t 54), (t 63)]⟩])
     .skip))))
   (.region [o 65 (.bin .add (t 32) (.const (.int .i64 1))),
     o 32 (.mv (t 65))])))))))
 (.seq (.region [o 66 (.load false 1 (t 0)),
   o 67 (.nilCheck (t 66)),
   o 68 (.fieldAddr 20 (t 67)),
   o 69 (.load false 1 (t 68)),
   o 70 (.call 49 [(t 69)]),
   o 71 (.call 48 [(t 70)]),
   o 72 (.lenSl (t 71)),
   o 73 (.mv (.const (.int .i64 0)))])
 (.block 2
  (.loop
   (.seq (.region [o 74 (.bin .lss (t 73) (t 72))])
   (.seq (.cond (t 74)
    .skip
    (.exit 2))
   (.seq (.block 3
    (.seq (.region [o 75 (.indexSl 1 (t 71) (t 73)),
      o 76 (.load false 1 (t 75)),
      o 5 (.mv (t 76))])
    (.seq (.region [o 77 (.load false 1 (t 0)),
      o 78 (.nilCheck (t 77)),
      o 79 (.fieldAddr 20 (t 78)),
      o 80 (.load false 1 (t 79)),
      o 81 (.mv (t 5)),
      o 82 (.lookup .int (.pointer none) false (t 80) (t 81)),
      o 6 (.alloc [(.pointer none)]),
      ⟨none, none, 0, .store 1 (t 6) (t 82)⟩])
    (.seq (.region [o 84 (.load false 1 (t 0)),
      o 85 (.mv (t 5)),
      o 86 (.call 23 [(t 84), (t 85)]),
      o 83 (.mv (t 86)),
      o 87 (.extract 0 (t 83)),
      o 88 (.extract 1 (t 83)),
      o 89 (.extract 2 (t 83)),
      o 8 (.alloc [(.slice none 0 0)]),
      o 7 (.mv (t 87)),
      ⟨none, none, 0, .store 1 (t 8) (t 88)⟩,
      o 9 (.mv (t 89))])
    (.seq (.region [o 90 (.load false 1 (t 6)),
      o 91 (.mkFunc (.func 51) [] [(t 6), (t 0), (t 8)]),
      o 92 (.call 50 [(t 90), (t 91)])])
    (.region [o 93 (.load false 1 (t 0)),
      o 94 (.load false 1 (t 6)),
      o 95 (.call 54 [(t 93), (t 94)])]))))))
   (.region [o 96 (.bin .add (t 73) (.const (.int .i64 1))),
     o 73 (.mv (t 96))])))))))))))⟩
theorem c45 : compFn Go.Proofs.Tryz.prog Go.Proofs.Tryz.f45 = some a45 := by kernel_rfl
def a46 : AFunc := ⟨22, [],
 (.seq (.region [o 3 (.box (t 1))])
 (.seq (.region [o 4 (.mv (t 0)),
   o 5 (.nilCheck (t 4)),
   o 6 (.fieldAddr 1 (t 5)),
   o 7 (.load false 1 (t 6)),
   o 8 (.fieldAddr 3 (t 3)),
   ⟨none, none, 0, .store 1 (t 8) (t 7)⟩])
 (.seq (.region [o 9 (.mv (t 0)),
   o 10 (.nilCheck (t 9)),
   o 11 (.fieldAddr 2 (t 10)),
   o 12 (.fieldAddr 0 (t 11)),
   o 13 (.load false 1 (t 12)),
   o 14 (.mv (.const (.int .i64 0)))])
 (.block 0
  (.loop
   (.seq (.region [o 15 (.bin .lss (t 14) (t 13))])
   (.seq (.cond (t 15)
    .skip
    (.exit 0))
   (.seq (.block 1
    (.seq (.region [o 16 (.mv (t 14)),
      o 17 (.fieldAddr 2 (t 3)),
      ⟨none, none, 0, .store 1 (t 17) (t 16)⟩])
    (.region [o 18 (.mv (t 0)),
      o 19 (.load true 11 (t 3)),
      o 20 (.call 83 [(t 18), (t 19)])])))
   (.region [o 21 (.bin .add (t 14) (.const (.int .i64 1))),
     o 14 (.mv (t 21))])))))))))⟩
theorem c46 : compFn Go.Proofs.Tryz.prog Go.Proofs.Tryz.f46 = some a46 := by kernel_rfl
def a50 : AFunc := ⟨22, [],
 (.seq (.region [o 5 (.mv (t 0)),
   o 6 (.nilCheck (t 5)),
   o 7 (.fieldAddr 2 (t 6)),
   o 8 (.load false 1 (t 7)),
   o 9 (.lenSl (t 8)),
   o 10 (.mv (.const (.int .i64 0)))])
 (.block 0
  (.loop
   (.seq (.region [o 11 (.bin .lss (t 10) (t 9))])
   (.seq (.cond (t 11)
    .skip
    (.exit 0))
   (.seq (.block 1
    (.seq (.region [o 12 (.mv (t 10)),
      o 4 (.mv (t 12))])
    (.region [o 13 (.mv (t 1)),
      o 14 (.mv (t 0)),
      o 15 (.nilCheck (t 14)),
      o 16 (.fieldAddr 2 (t 15)),
      o 17 (.load false 1 (t 16)),
      o 18 (.mv (t 4)),
      o 19 (.indexSl 2 (t 17) (t 18)),
      o 20 (.callV (t 13) [(t 19)])])))
   (.region [o 21 (.bin .add (t 10) (.const (.int .i64 1))),
     o 10 (.mv (t 21))])))))))⟩
theorem c50 : compFn Go.Proofs.Tryz.prog Go.Proofs.Tryz.f50 = some a50 := by kernel_rfl
def a52 : AFunc := ⟨21, [],
 (.seq (.region [o 9 (.mv (t 0)),
   o 10 (.mv (t 1)),
   o 11 (.call 88 [(t 9), (t 10)]),
   o 12 (.call 87 [(t 11)]),
   o 8 (.mv (t 12)),
   o 13 (.extract 0 (t 8)),
   o 14 (.extract 1 (t 8)),
   o 6 (.mv (t 13)),
   o 7 (.mv (t 14))])
 (.region [o 15 (.mv (t 0)),
   o 16 (.mv (t 1)),
   o 17 (.mv (t 2)),
   o 18 (.mv (t 6)),
   o 19 (.build [(.int .u8 0), (.int .i64 0), (.int .i64 0), (.int .i64 0), (.int .i64 0), (.int .i64 0), (.int .i64 0), (.bool false), (.slice none 0 0), (.slice none 0 0), (.string ⟨#[]⟩)] [(0, 1, (.const (.int .u8 12))), (10, 1, (t 18))]),
   o 20 (.call 89 [(t 15), (t 16), (t 17), (t 19)])]))⟩
theorem c52 : compFn Go.Proofs.Tryz.prog Go.Proofs.Tryz.f52 = some a52 := by kernel_rfl
def a53 : AFunc := ⟨40, [],
 (.seq (.region [o 10 (.mv (t 0)),
   o 11 (.mv (t 1)),
   o 12 (.call 88 [(t 10), (t 11)]),
   o 6 (.mv (t 12))])
 (.seq (.region [o 13 (.mv (t 2)),
   o 14 (.nilCheck (t 13)),
   o 15 (.fieldAddr 1 (t 14)),
   o 16 (.load false 1 (t 15)),
   o 7 (.mv (t 16))])
 (.seq (.seq (.region [o 17 (.mv (t 7)),
   o 18 (.bin .lss (t 17) (.const (.int .i64 0)))])
 (.cond (t 18)
  (.region [o 19 (.mv (t 6)),
    o 20 (.lenSl (t 19)),
    o 7 (.mv (t 20))])
  .skip))
 (.seq (.region [o 22 (.mv (t 6)),
   o 23 (.mv (t 7)),
   o 24 (.mv (t 6)),
   o 25 (.lenSl (t 24)),
   o 26 (.mv (t 7)),
   o 27 (.bin .add (t 26) (.const (.int .i64 8))),
   o 28 (.min [(t 25), (t 27)]),
   o 29 (.sliceSl 3 (t 22) (some (t 23)) (some (t 28)) none),
   o 30 (.call 87 [(t 29)]),
   o 21 (.mv (t 30)),
   o 31 (.extract 0 (t 21)),
   o 32 (.extract 1 (t 21)),
   o 8 (.mv (t 31)),
   o 9 (.mv (t 32))])
 (.region [o 33 (.mv (t 0)),
   o 34 (.mv (t 1)),
   o 35 (.mv (t 2)),
   o 36 (.mv (t 7)),
   o 37 (.mv (t 8)),
   o 38 (.build [(.int .u8 0), (.int .i64 0), (.int .i64 0), (.int .i64 0), (.int .i64 0), (.int .i64 0), (.int .i64 0), (.bool false), (.slice none 0 0), (.slice none 0 0), (.string ⟨#[]⟩)] [(0, 1, (.const (.int .u8 14))), (6, 1, (t 36)), (10, 1, (t 37))]),
   o 39 (.call 89 [(t 33), (t 34), (t 35), (t 38)])])))))⟩
theorem c53 : compFn Go.Proofs.Tryz.prog Go.Proofs.Tryz.f53 = some a53 := by kernel_rfl
def a54 : AFunc := ⟨30, [],
 (.seq (.draw [o 4 (.mv (t 1)),
   ⟨(some 5), none, 1, .nilCheck (t 4)⟩,
   ⟨(some 6), none, 3, .fieldAddr 4 (t 5)⟩,
   ⟨(some 7), none, 7, .load false 1 (t 6)⟩,
   ⟨(some 8), none, 15, .un .not (t 7)⟩,
   ⟨(some 9), none, 31, .mv (t 8)⟩,
   ⟨(some 10), (some (9, true)), 63, .mv (t 0)⟩,
   ⟨(some 11), (some (9, true)), 63, .mv (t 1)⟩,
   ⟨(some 12), (some (9, true)), 255, .call 82 [(t 10), (t 11)]⟩,
   ⟨(some 13), (some (9, true)), 63, .mv (t 1)⟩,
   ⟨(some 14), (some (9, true)), 575, .nilCheck (t 13)⟩,
   ⟨(some 15), (some (9, true)), 1599, .fieldAddr 3 (t 14)⟩,
   ⟨(some 16), (some (9, true)), 3647, .load false 1 (t 15)⟩,
   ⟨(some 17), (some (9, true)), 8191, .bin .geq (t 12) (t 16)⟩,
   ⟨(some 18), none, 16383, .pick (t 9) (t 17) (.const (.bool false))⟩])
 (.cond (t 18)
  (.draw [o 19 (.mv (t 0)),
    o 20 (.mv (t 1)),
    ⟨(some 21), none, 2, .nilCheck (t 20)⟩,
    ⟨(some 22), none, 6, .fieldAddr 0 (t 21)⟩,
    ⟨(some 23), none, 14, .load false 1 (t 22)⟩,
    o 24 (.mv (t 1)),
    ⟨(some 25), none, 32, .nilCheck (t 24)⟩,
    ⟨(some 26), none, 96, .fieldAddr 1 (t 25)⟩,
    ⟨(some 27), none, 224, .load false 1 (t 26)⟩,
    ⟨(some 28), none, 510, .build [(.int .u8 0), (.int .i64 0), (.int .i64 0), (.int .i64 0), (.int .i64 0), (.int .i64 0), (.int .i64 0), (.bool false), (.slice none 0 0), (.slice none 0 0), (.string ⟨#[]⟩)] [(0, 1, (.const (.int .u8 10))), (4, 1, (t 23)), (5, 1, (t 27))]⟩,
    ⟨(some 29), none, 1023, .call 46 [(t 19), (t 28)]⟩])
  .skip))⟩
theorem c54 : compFn Go.Proofs.Tryz.prog Go.Proofs.Tryz.f54 = some a54 := by kernel_rfl
def a55 : AFunc := ⟨9, [.tmp 2],
 (.seq (.region [o 2 (.mv (.const (.slice none 0 0)))])
 (.seq (.region [o 3 (.mv (t 0)),
   o 4 (.nilCheck (t 3)),
   o 5 (.fieldAddr 2 (t 4)),
   o 6 (.load false 1 (t 5)),
   o 7 (.call 91 [(t 6)]),
   o 8 (.call 90 [(t 7)]),
   o 2 (.mv (t 8))])
 .ret))⟩
theorem c55 : compFn Go.Proofs.Tryz.prog Go.Proofs.Tryz.f55 = some a55 := by kernel_rfl
def a56 : AFunc := ⟨25, [],
 (.seq (.draw [o 6 (.mv (t 0)),
   ⟨(some 7), none, 1, .nilCheck (t 6)⟩,
   ⟨(some 8), none, 3, .fieldAddr 1 (t 7)⟩,
   ⟨(some 9), none, 7, .load false 1 (t 8)⟩,
   o 10 (.mv (t 2)),
   ⟨(some 11), none, 16, .lenStr (t 10)⟩,
   o 12 (.mv (t 1)),
   ⟨(some 13), none, 64, .nilCheck (t 12)⟩,
   ⟨(some 14), none, 192, .fieldAddr 0 (t 13)⟩,
   ⟨(some 15), none, 448, .load false 1 (t 14)⟩,
   ⟨(some 16), none, 960, .lenStr (t 15)⟩,
   ⟨(some 17), none, 2032, .bin .sub (t 11) (t 16)⟩,
   ⟨(some 18), none, 4095, .bin .add (t 9) (t 17)⟩,
   ⟨(some 19), none, 8191, .nilCheck (t 6)⟩,
   ⟨(some 20), none, 16383, .fieldAddr 1 (t 19)⟩,
   ⟨none, none, 32767, .store 1 (t 20) (t 18)⟩])
 (.region [o 21 (.mv (t 1)),
   o 22 (.mv (t 2)),
   o 23 (.nilCheck (t 21)),
   o 24 (.fieldAddr 0 (t 23)),
   ⟨none, none, 0, .store 1 (t 24) (t 22)⟩]))⟩
theorem c56 : compFn Go.Proofs.Tryz.prog Go.Proofs.Tryz.f56 = some a56 := by kernel_rfl
def a57 : AFunc := ⟨27, [.tmp 2],
 (.seq (.region [o 1 (.box (t 0)),
   o 2 (.mv (.const (.bool false)))])
 (.seq (.region [o 3 (.fieldAddr 0 (t 1)),
   o 4 (.load false 1 (t 3)),
   o 5 (.bin .geq (t 4) (.const (.int .i64 1))),
   o 6 (.mv (t 5)),
   ⟨(some 7), (some (6, true)), 0, .fieldAddr 0 (t 1)⟩,
   ⟨(some 8), (some (6, true)), 0, .load false 1 (t 7)⟩,
   ⟨(some 9), (some (6, true)), 0, .bin .leq (t 8) (.const (.int .i64 2147483647))⟩,
   o 10 (.pick (t 6) (t 9) (.const (.bool false))),
   o 11 (.mv (t 10)),
   ⟨(some 12), (some (11, true)), 0, .fieldAddr 1 (t 1)⟩,
   ⟨(some 13), (some (11, true)), 0, .load false 1 (t 12)⟩,
   ⟨(some 14), (some (11, true)), 0, .bin .geq (t 13) (.const (.int .i64 1))⟩,
   o 15 (.pick (t 11) (t 14) (.const (.bool false))),
   o 16 (.mv (t 15)),
   ⟨(some 17), (some (16, true)), 0, .fieldAddr 1 (t 1)⟩,
   ⟨(some 18), (some (16, true)), 0, .load false 1 (t 17)⟩,
   ⟨(some 19), (some (16, true)), 0, .bin .leq (t 18) (.const (.int .i64 2147483647))⟩,
   o 20 (.pick (t 16) (t 19) (.const (.bool false))),
   o 21 (.mv (t 20)),
   ⟨(some 22), (some (21, true)), 0, .fieldAddr 2 (t 1)⟩,
   ⟨(some 23), (some (21, true)), 0, .load false 1 (t 22)⟩,
   ⟨(some 24), (some (21, true)), 0, .lenStr (t 23)⟩,
   ⟨(some 25), (some (21, true)), 0, .bin .leq (t 24) (.const (.int .i64 256))⟩,
   o 26 (.pick (t 21) (t 25) (.const (.bool false))),
   o 2 (.mv (t 26))])
 .ret))⟩
theorem c57 : compFn Go.Proofs.Tryz.prog Go.Proofs.Tryz.f57 = some a57 := by kernel_rfl
def a58 : AFunc := ⟨14, [.tmp 2],
 (.seq (.region [o 1 (.box (t 0)),
   o 2 (.mv (.const (.string ⟨#[]⟩)))])
 (.seq (.draw [o 3 (.fieldAddr 0 (t 1)),
   ⟨(some 4), none, 1, .load false 1 (t 3)⟩,
   ⟨(some 5), none, 3, .toInt .u64 (t 4)⟩,
   ⟨(some 6), none, 7, .call 32 [(.const (.string ⟨#[]⟩)), (t 5)]⟩,
   o 7 (.fieldAddr 1 (t 1)),
   ⟨(some 8), none, 16, .load false 1 (t 7)⟩,
   ⟨(some 9), none, 48, .toInt .u64 (t 8)⟩,
   ⟨(some 10), none, 127, .call 32 [(t 6), (t 9)]⟩,
   o 11 (.fieldAddr 2 (t 1)),
   ⟨(some 12), none, 256, .load false 1 (t 11)⟩,
   ⟨(some 13), none, 1023, .call 92 [(t 10), (t 12)]⟩,
   ⟨(some 2), none, 2047, .mv (t 13)⟩])
 .ret))⟩
theorem c58 : compFn Go.Proofs.Tryz.prog Go.Proofs.Tryz.f58 = some a58 := by kernel_rfl
def a59 : AFunc := ⟨24, [.tmp 4, .tmp 5, .tmp 6],
 (.seq (.region [o 4 (.mv (.const (.int .i64 0))),
   o 5 (.mv (.const (.slice none 0 0))),
   o 6 (.mv (.const (.bool false)))])
 (.seq (.region [o 10 (.mv (t 0)),
   o 11 (.nilCheck (t 10)),
   o 12 (.fieldAddr 1 (t 11)),
   o 13 (.load false 1 (t 12)),
   o 14 (.mv (t 1)),
   o 15 (.lookup .int (.agg #[(.int .i64 0), (.slice none 0 0)]) true (t 13) (t 14)),
   o 9 (.mv (t 15)),
   o 16 (.extract 0 (t 9)),
   o 17 (.extract 1 (t 9)),
   o 7 (.alloc [(.int .i64 0), (.slice none 0 0)]),
   ⟨none, none, 0, .store 2 (t 7) (t 16)⟩,
   o 8 (.mv (t 17))])
 (.seq (.draw [o 18 (.fieldAddr 0 (t 7)),
   ⟨(some 19), none, 1, .load false 1 (t 18)⟩,
   o 20 (.fieldAddr 1 (t 7)),
   ⟨(some 21), none, 4, .load false 1 (t 20)⟩,
   ⟨(some 22), none, 12, .call 93 [(t 21)]⟩,
   o 23 (.mv (t 8)),
   ⟨(some 4), none, 31, .mv (t 19)⟩,
   ⟨(some 5), none, 95, .mv (t 22)⟩,
   ⟨(some 6), none, 255, .mv (t 23)⟩])
 .ret)))⟩
theorem c59 : compFn Go.Proofs.Tryz.prog Go.Proofs.Tryz.f59 = some a59 := by kernel_rfl
def a60 : AFunc := ⟨77, [.tmp 2],
 (.seq (.region [o 2 (.mv (.const (.int .u64 0)))])
 (.seq (.seq (.region [o 7 (.mv (t 0)),
   o 8 (.nilCheck (t 7)),
   o 9 (.fieldAddr 2 (t 8)),
   o 10 (.load false 1 (t 9)),
   o 11 (.bin .neq (t 10) (.const (.int .i64 0)))])
 (.cond (t 11)
  (.seq (.region [o 2 (.mv (.const (.int .u64 0)))])
  .ret)
  .skip))
 (.seq (.draw [o 12 (.mv (t 0)),
   ⟨(some 13), none, 1, .nilCheck (t 12)⟩,
   ⟨(some 14), none, 3, .fieldAddr 0 (t 13)⟩,
   ⟨(some 15), none, 7, .load false 1 (t 14)⟩,
   o 16 (.mv (t 0)),
   ⟨(some 17), none, 16, .nilCheck (t 16)⟩,
   ⟨(some 18), none, 48, .fieldAddr 1 (t 17)⟩,
   ⟨(some 19), none, 112, .load false 1 (t 18)⟩,
   ⟨(some 20), none, 255, .sliceStr (t 15) (some (t 19)) none⟩,
   o 3 (.mv (.const (.int .u64 0))),
   ⟨(some 4), none, 1023, .mv (t 20)⟩])
 (.seq (.seq (.region [o 21 (.mv (t 4)),
   o 22 (.lenStr (t 21)),
   o 23 (.min [(t 22), (.const (.int .i64 10))]),
   o 24 (.mv (.const (.int .i64 0)))])
 (.block 0
  (.loop
   (.seq (.region [o 25 (.bin .lss (t 24) (t 23))])
   (.seq (.cond (t 25)
    .skip
    (.exit 0))
   (.seq (.block 1
    (.seq (.region [o 26 (.mv (t 24)),
      o 5 (.mv (t 26))])
    (.seq (.region [o 27 (.mv (t 4)),
      o 28 (.mv (t 5)),
      o 29 (.indexStr (t 27) (t 28)),
      o 30 (.toInt .u64 (t 29)),
      o 6 (.mv (t 30))])
    (.seq (.region [o 31 (.mv (t 3)),
      o 32 (.mv (t 6)),
      o 33 (.bin .and (t 32) (.const (.int .u64 127))),
      o 34 (.mv (t 5)),
      o 35 (.bin .mul (.const (.int .i64 7)) (t 34)),
      o 36 (.bin .shl (t 33) (t 35)),
      o 37 (.bin .or (t 31) (t 36)),
      o 3 (.mv (t 37))])
    (.seq (.block 2
     (.seq (.region [o 39 (.mv (t 6)),
       o 40 (.bin .geq (t 39) (.const (.int .u64 128))),
       o 38 (.mv (t 40))])
     (.cond (t 38)
      (.exit 1)
      (.seq (.seq (.region [o 42 (.mv (t 6)),
        o 43 (.bin .eql (t 42) (.const (.int .u64 0))),
        o 44 (.mv (t 43)),
        ⟨(some 45), (some (44, true)), 0, .mv (t 5)⟩,
        ⟨(some 46), (some (44, true)), 0, .bin .gtr (t 45) (.const (.int .i64 0))⟩,
        o 47 (.pick (t 44) (t 46) (.const (.bool false))),
        o 41 (.mv (t 47))])
      (.cond (t 41)
       .skip
       (.region [o 48 (.mv (t 5)),
         o 49 (.bin .eql (t 48) (.const (.int .i64 9))),
         o 50 (.mv (t 49)),
         ⟨(some 51), (some (50, true)), 0, .mv (t 6)⟩,
         ⟨(some 52), (some (50, true)), 0, .bin .gtr (t 51) (.const (.int .u64 1))⟩,
         o 53 (.pick (t 50) (t 52) (.const (.bool false))),
         o 41 (.mv (t 53))])))
      (.cond (t 41)
       (.seq (.region [o 54 (.mv (t 0)),
         o 55 (.nilCheck (t 54)),
         o 56 (.fieldAddr 2 (t 55)),
         ⟨none, none, 0, .store 1 (t 56) (.const (.int .i64 21))⟩])
       (.seq (.region [o 2 (.mv (.const (.int .u64 0)))])
       .ret))
       .skip)))))
    (.seq (.region [o 57 (.mv (t 0)),
      o 58 (.nilCheck (t 57)),
      o 59 (.fieldAddr 1 (t 58)),
      o 60 (.load false 1 (t 59)),
      o 61 (.mv (t 5)),
      o 62 (.bin .add (t 61) (.const (.int .i64 1))),
      o 63 (.bin .add (t 60) (t 62)),
      o 64 (.nilCheck (t 57)),
      o 65 (.fieldAddr 1 (t 64)),
      ⟨none, none, 0, .store 1 (t 65) (t 63)⟩])
    (.seq (.region [o 66 (.mv (t 3)),
      o 2 (.mv (t 66))])
    .ret)))))))
   (.region [o 67 (.bin .add (t 24) (.const (.int .i64 1))),
     o 24 (.mv (t 67))])))))))
 (.seq (.region [o 68 (.mv (t 0)),
   o 69 (.nilCheck (t 68)),
   o 70 (.fieldAddr 2 (t 69)),
   ⟨none, none, 0, .store 1 (t 70) (.const (.int .i64 20))⟩])
 (.seq (.seq (.region [o 71 (.mv (t 4)),
   o 72 (.lenStr (t 71)),
   o 73 (.bin .geq (t 72) (.const (.int .i64 10)))])
 (.cond (t 73)
  (.region [o 74 (.mv (t 0)),
    o 75 (.nilCheck (t 74)),
    o 76 (.fieldAddr 2 (t 75)),
    ⟨none, none, 0, .store 1 (t 76) (.const (.int .i64 21))⟩])
  .skip))
 (.seq (.region [o 2 (.mv (.const (.int .u64 0)))])
 .ret)))))))⟩
theorem c60 : compFn Go.Proofs.Tryz.prog Go.Proofs.Tryz.f60 = some a60 := by kernel_rfl
def a64 : AFunc := ⟨25, [.tmp 6],
 (.seq (.region [o 6 (.mv (.const (.string ⟨#[]⟩)))])
 (.seq (.region [o 10 (.mv (t 0)),
   o 11 (.strToBytes (t 10)),
   o 7 (.mv (t 11))])
 (.seq (.seq (.region [o 12 (.mv (t 1)),
   o 13 (.lenSl (t 12)),
   o 14 (.mv (.const (.int .i64 0)))])
 (.block 0
  (.loop
   (.seq (.region [o 15 (.bin .lss (t 14) (t 13))])
   (.seq (.cond (t 15)
    .skip
    (.exit 0))
   (.seq (.block 1
    (.seq (.region [o 16 (.indexSl 1 (t 12) (t 14)),
      o 17 (.load false 1 (t 16)),
      o 9 (.mv (t 17))])
    (.region [o 18 (.mv (t 2)),
      o 19 (.mv (t 7)),
      o 20 (.mv (t 9)),
      o 21 (.callV (t 18) [(t 19), (t 20)]),
      o 7 (.mv (t 21))])))
   (.region [o 22 (.bin .add (t 14) (.const (.int .i64 1))),
     o 14 (.mv (t 22))])))))))
 (.seq (.region [o 23 (.mv (t 7)),
   o 24 (.bytesToStr (t 23)),
   o 6 (.mv (t 24))])
 .ret))))⟩
theorem c64 : compFn Go.Proofs.Tryz.prog Go.Proofs.Tryz.f64 = some a64 := by kernel_rfl
def a65 : AFunc := ⟨20, [.tmp 4],
 (.seq (.region [o 4 (.mv (.const (.slice none 0 0)))])
 (.seq (.block 0
  (.loop
   (.seq (.seq (.region [o 5 (.mv (t 1)),
     o 6 (.bin .geq (t 5) (.const (.int .u64 128)))])
   (.cond (t 6)
    .skip
    (.exit 0)))
   (.seq (.block 1
    (.region [o 9 (.mv (t 0)),
      o 10 (.mv (t 1)),
      o 11 (.toInt .u8 (t 10)),
      o 12 (.bin .or (t 11) (.const (.int .u8 128))),
      o 13 (.buildSlice 1 1 [(.int .u8 0)] [(0, 1, (t 12))]),
      o 14 (.append 1 1 [(.int .u8 0)] (t 9) (t 13)),
      o 0 (.mv (t 14))]))
   (.region [o 7 (.mv (t 1)),
     o 8 (.bin .shr (t 7) (.const (.int .u64 7))),
     o 1 (.mv (t 8))])))))
 (.seq (.region [o 15 (.mv (t 0)),
   o 16 (.mv (t 1)),
   o 17 (.toInt .u8 (t 16)),
   o 18 (.buildSlice 1 1 [(.int .u8 0)] [(0, 1, (t 17))]),
   o 19 (.append 1 1 [(.int .u8 0)] (t 15) (t 18)),
   o 4 (.mv (t 19))])
 .ret)))⟩
theorem c65 : compFn Go.Proofs.Tryz.prog Go.Proofs.Tryz.f65 = some a65 := by kernel_rfl
def a66 : AFunc := ⟨61, [.tmp 6],
 (.seq (.region [o 6 (.mv (.const (.int .i64 0)))])
 (.seq (.region [o 7 (.mv (.const (.int .i64 0)))])
 (.seq (.seq (.region [o 10 (.mv (t 0)),
   o 11 (.nilCheck (t 10)),
   o 12 (.fieldAddr 2 (t 11)),
   o 13 (.load false 1 (t 12)),
   o 14 (.mv (t 1)),
   o 15 (.lookup .str (.pointer none) false (t 13) (t 14)),
   o 8 (.mv (t 15))])
 (.seq (.region [o 16 (.mv (t 8)),
   o 17 (.eqNil .ptr true (t 16) (.const (.pointer none)))])
 (.cond (t 17)
  (.region [o 18 (.mv (t 8)),
    o 19 (.nilCheck (t 18)),
    o 20 (.fieldAddr 0 (t 19)),
    o 21 (.load false 1 (t 20)),
    o 22 (.lenStr (t 21)),
    o 7 (.mv (t 22))])
  .skip)))
 (.seq (.block 0
  (.seq (.region [o 24 (.mv (t 0)),
    o 25 (.nilCheck (t 24)),
    o 26 (.fieldAddr 3 (t 25)),
    o 27 (.load false 1 (t 26)),
    o 23 (.mv (t 27))])
  (.cond (t 23)
   (.seq (.region [o 6 (.mv (.const (.int .i64 41)))])
   .ret)
   (.seq (.draw [o 29 (.mv (t 2)),
     ⟨(some 30), none, 1, .lenStr (t 29)⟩,
     o 31 (.mv (t 0)),
     ⟨(some 32), none, 4, .nilCheck (t 31)⟩,
     ⟨(some 33), none, 12, .fieldAddr 0 (t 32)⟩,
     ⟨(some 34), none, 28, .load false 1 (t 33)⟩,
     o 35 (.mv (t 0)),
     ⟨(some 36), none, 64, .nilCheck (t 35)⟩,
     ⟨(some 37), none, 192, .fieldAddr 1 (t 36)⟩,
     ⟨(some 38), none, 448, .load false 1 (t 37)⟩,
     ⟨(some 39), none, 1020, .bin .sub (t 34) (t 38)⟩,
     o 40 (.mv (t 7)),
     ⟨(some 41), none, 4092, .bin .add (t 39) (t 40)⟩,
     ⟨(some 42), none, 8191, .bin .gtr (t 30) (t 41)⟩,
     ⟨(some 28), none, 16383, .mv (t 42)⟩])
   (.cond (t 28)
    (.seq (.region [o 6 (.mv (.const (.int .i64 40)))])
    .ret)
    (.seq (.region [o 44 (.mv (t 0)),
      o 45 (.call 95 [(t 44)]),
      o 43 (.mv (t 45))])
    (.cond (t 43)
     (.seq (.region [o 6 (.mv (.const (.int .i64 41)))])
     .ret)
     .skip)))))))
 (.seq (.region [o 46 (.mv (t 0)),
   o 47 (.mv (t 1)),
   o 48 (.call 96 [(t 46), (t 47)]),
   o 9 (.mv (t 48))])
 (.seq (.region [o 49 (.mv (t 0)),
   o 50 (.mv (t 9)),
   o 51 (.mv (t 2)),
   o 52 (.call 56 [(t 49), (t 50), (t 51)])])
 (.seq (.region [o 53 (.mv (t 9)),
   o 54 (.mv (t 9)),
   o 55 (.mv (t 2)),
   o 56 (.lenStr (t 55)),
   o 57 (.nilCheck (t 53)),
   o 58 (.fieldAddr 1 (t 57)),
   ⟨none, none, 0, .store 1 (t 58) (t 56)⟩,
   o 59 (.nilCheck (t 54)),
   o 60 (.fieldAddr 2 (t 59)),
   ⟨none, none, 0, .store 1 (t 60) (.const (.bool true))⟩])
 (.seq (.region [o 6 (.mv (.const (.int .i64 0)))])
 .ret))))))))⟩
theorem c66 : compFn Go.Proofs.Tryz.prog Go.Proofs.Tryz.f66 = some a66 := by kernel_rfl
def a67 : AFunc := ⟨32, [.tmp 2],
 (.seq (.region [o 2 (.mv (.const (.int .i64 0)))])
 (.seq (.region [o 8 (.mv (t 0)),
   o 9 (.call 97 [(t 8), (.const (.string ⟨#[99]⟩))]),
   o 7 (.mv (t 9)),
   o 10 (.extract 0 (t 7)),
   o 11 (.extract 1 (t 7)),
   o 3 (.mv (t 10)),
   o 4 (.mv (t 11))])
 (.seq (.region [o 13 (.mv (t 3)),
   o 14 (.call 98 [(t 13), (.const (.int .i64 10)), (.const (.int .i64 31))]),
   o 12 (.mv (t 14)),
   o 15 (.extract 0 (t 12)),
   o 16 (.extract 1 (t 12)),
   o 5 (.mv (t 15)),
   o 6 (.mv (t 16))])
 (.seq (.seq (.region [o 17 (.mv (t 4)),
   o 18 (.un .not (t 17)),
   o 19 (.mv (t 18)),
   ⟨(some 20), (some (19, false)), 0, .mv (t 6)⟩,
   ⟨(some 21), (some (19, false)), 0, .eqNil .iface true (t 20) (.const .nilIface)⟩,
   o 22 (.pick (t 19) (.const (.bool true)) (t 21)),
   o 23 (.mv (t 22)),
   ⟨(some 24), (some (23, false)), 0, .mv (t 5)⟩,
   ⟨(some 25), (some (23, false)), 0, .toInt .i64 (t 24)⟩,
   ⟨(some 26), (some (23, false)), 0, .call 99 [(t 25)]⟩,
   ⟨(some 27), (some (23, false)), 0, .mv (t 0)⟩,
   ⟨(some 28), (some (23, false)), 0, .bin .neq (t 26) (t 27)⟩,
   o 29 (.pick (t 23) (.const (.bool true)) (t 28))])
 (.cond (t 29)
  (.seq (.region [o 2 (.mv (.const (.int .i64 0)))])
  .ret)
  .skip))
 (.seq (.region [o 30 (.mv (t 5)),
   o 31 (.toInt .i64 (t 30)),
   o 2 (.mv (t 31))])
 .ret)))))⟩
theorem c67 : compFn Go.Proofs.Tryz.prog Go.Proofs.Tryz.f67 = some a67 := by kernel_rfl
def a69 : AFunc := ⟨7, [.tmp 2],
 (.seq (.region [o 2 (.mv (.const (.bool false)))])
 (.seq (.region [o 3 (.mv (t 0)),
   o 4 (.nilCheck (t 3)),
   o 5 (.fieldAddr 3 (t 4)),
   o 6 (.load false 1 (t 5)),
   o 2 (.mv (t 6))])
 .ret))⟩
theorem c69 : compFn Go.Proofs.Tryz.prog Go.Proofs.Tryz.f69 = some a69 := by kernel_rfl
def a70 : AFunc := ⟨117, [],
 (.seq (.region [o 2 (.box (t 0)),
   o 3 (.box (t 1))])
 (.seq (.region [o 10 (.load false 1 (t 2)),
   o 11 (.fieldAddr 4 (t 3)),
   o 12 (.load false 1 (t 11)),
   o 13 (.call 23 [(t 10), (t 12)]),
   o 9 (.mv (t 13)),
   o 14 (.extract 0 (t 9)),
   o 15 (.extract 1 (t 9)),
   o 16 (.extract 2 (t 9)),
   o 4 (.mv (t 14)),
   o 5 (.mv (t 15)),
   o 6 (.mv (t 16))])
 (.seq (.block 0
  (.seq (.seq (.region [o 18 (.load false 1 (t 2)),
    o 19 (.fieldAddr 8 (t 3)),
    o 20 (.load false 1 (t 19)),
    o 21 (.call 103 [(t 18), (t 20)]),
    o 22 (.un .not (t 21)),
    o 17 (.mv (t 22))])
  (.cond (t 17)
   .skip
   (.seq (.region [o 23 (.fieldAddr 5 (t 3)),
     o 24 (.load false 1 (t 23)),
     o 25 (.bin .lss (t 24) (.const (.int .i64 1))),
     o 17 (.mv (t 25))])
   (.cond (t 17)
    .skip
    (.seq (.region [o 26 (.fieldAddr 6 (t 3)),
      o 27 (.load false 1 (t 26)),
      o 28 (.bin .lss (t 27) (.const (.int .i64 0))),
      o 17 (.mv (t 28))])
    (.cond (t 17)
     .skip
     (.seq (.region [o 29 (.fieldAddr 6 (t 3)),
       o 30 (.load false 1 (t 29)),
       o 31 (.fieldAddr 5 (t 3)),
       o 32 (.load false 1 (t 31)),
       o 33 (.bin .geq (t 30) (t 32)),
       o 17 (.mv (t 33))])
     (.cond (t 17)
      .skip
      (.seq (.region [o 34 (.mv (t 6)),
        o 35 (.mv (t 34)),
        ⟨(some 36), (some (35, true)), 0, .mv (t 4)⟩,
        ⟨(some 37), (some (35, true)), 0, .fieldAddr 5 (t 3)⟩,
        ⟨(some 38), (some (35, true)), 0, .load false 1 (t 37)⟩,
        ⟨(some 39), (some (35, true)), 0, .bin .gtr (t 36) (t 38)⟩,
        ⟨(some 40), (some (35, true)), 0, .mv (t 39)⟩,
        ⟨(some 41), (some (40, false)), 0, .mv (t 4)⟩,
        ⟨(some 42), (some (40, false)), 0, .fieldAddr 6 (t 3)⟩,
        ⟨(some 43), (some (40, false)), 0, .load false 1 (t 42)⟩,
        ⟨(some 44), (some (40, false)), 0, .bin .lss (t 41) (t 43)⟩,
        ⟨(some 45), (some (35, true)), 0, .pick (t 40) (.const (.bool true)) (t 44)⟩,
        o 46 (.pick (t 35) (t 45) (.const (.bool false))),
        o 17 (.mv (t 46))])
      (.cond (t 17)
       .skip
       (.draw [o 47 (.mv (t 6)),
         ⟨(some 48), none, 1, .un .not (t 47)⟩,
         ⟨(some 49), none, 3, .mv (t 48)⟩,
         ⟨(some 50), (some (49, true)), 7, .fieldAddr 6 (t 3)⟩,
         ⟨(some 51), (some (49, true)), 15, .load false 1 (t 50)⟩,
         ⟨(some 52), (some (49, true)), 31, .bin .gtr (t 51) (.const (.int .i64 0))⟩,
         ⟨(some 53), (some (49, true)), 63, .mv (t 52)⟩,
         ⟨(some 54), (some (53, false)), 127, .fieldAddr 5 (t 3)⟩,
         ⟨(some 55), (some (53, false)), 255, .load false 1 (t 54)⟩,
         ⟨(some 56), (some (53, false)), 127, .load false 1 (t 2)⟩,
         ⟨(some 57), (some (53, false)), 639, .nilCheck (t 56)⟩,
         ⟨(some 58), (some (53, false)), 1663, .fieldAddr 21 (t 57)⟩,
         ⟨(some 59), (some (53, false)), 3711, .load false 1 (t 58)⟩,
         ⟨(some 60), (some (53, false)), 127, .fieldAddr 4 (t 3)⟩,
         ⟨(some 61), (some (53, false)), 8319, .load false 1 (t 60)⟩,
         ⟨(some 62), (some (53, false)), 32383, .lookup .int (.int .i64 0) false (t 59) (t 61)⟩,
         ⟨(some 63), (some (53, false)), 65535, .bin .leq (t 55) (t 62)⟩,
         ⟨(some 64), (some (49, true)), 131071, .pick (t 53) (.const (.bool true)) (t 63)⟩,
         ⟨(some 65), none, 262143, .pick (t 49) (t 64) (.const (.bool false))⟩,
         ⟨(some 17), none, 524287, .mv (t 65)⟩])))))))))))
  (.cond (t 17)
   .ret
   .skip)))
 (.seq (.region [o 7 (.mv (.const (.int .i64 0)))])
 (.seq (.block 1
  (.seq (.region [o 67 (.mv (t 6)),
    o 68 (.un .not (t 67)),
    o 66 (.mv (t 68))])
  (.cond (t 66)
   (.draw [o 69 (.load false 1 (t 2)),
     ⟨(some 70), none, 1, .nilCheck (t 69)⟩,
     ⟨(some 71), none, 3, .fieldAddr 17 (t 70)⟩,
     ⟨(some 72), none, 7, .load false 1 (t 71)⟩,
     o 73 (.fieldAddr 4 (t 3)),
     ⟨(some 74), none, 16, .load false 1 (t 73)⟩,
     o 75 (.fieldAddr 5 (t 3)),
     ⟨(some 76), none, 64, .load false 1 (t 75)⟩,
     ⟨(some 77), none, 255, .call 104 [(t 72), (t 74), (t 76)]⟩,
     ⟨(some 7), none, 511, .mv (t 77)⟩])
   (.seq (.region [o 79 (.mv (t 4)),
     o 80 (.fieldAddr 5 (t 3)),
     o 81 (.load false 1 (t 80)),
     o 82 (.bin .lss (t 79) (t 81)),
     o 78 (.mv (t 82))])
   (.cond (t 78)
    (.draw [o 83 (.load false 1 (t 2)),
      ⟨(some 84), none, 1, .nilCheck (t 83)⟩,
      ⟨(some 85), none, 3, .fieldAddr 17 (t 84)⟩,
      ⟨(some 86), none, 7, .load false 1 (t 85)⟩,
      o 87 (.fieldAddr 4 (t 3)),
      ⟨(some 88), none, 16, .load false 1 (t 87)⟩,
      o 89 (.fieldAddr 5 (t 3)),
      ⟨(some 90), none, 64, .load false 1 (t 89)⟩,
      ⟨(some 91), none, 255, .call 105 [(t 86), (t 88), (t 90)]⟩,
      ⟨(some 7), none, 511, .mv (t 91)⟩])
    .skip)))))
 (.seq (.seq (.region [o 92 (.mv (t 7)),
   o 93 (.bin .neq (t 92) (.const (.int .i64 0))),
   o 94 (.mv (t 93)),
   ⟨(some 95), (some (94, false)), 0, .load false 1 (t 2)⟩,
   ⟨(some 96), (some (94, false)), 0, .fieldAddr 4 (t 3)⟩,
   ⟨(some 97), (some (94, false)), 0, .load false 1 (t 96)⟩,
   ⟨(some 98), (some (94, false)), 0, .fieldAddr 5 (t 3)⟩,
   ⟨(some 99), (some (94, false)), 0, .load false 1 (t 98)⟩,
   ⟨(some 100), (some (94, false)), 0, .call 106 [(t 95), (t 97), (t 99)]⟩,
   ⟨(some 101), (some (94, false)), 0, .eqNil .ptr true (t 100) (.const (.pointer none))⟩,
   o 102 (.pick (t 94) (.const (.bool true)) (t 101))])
 (.cond (t 102)
  .ret
  .skip))
 (.seq (.region [o 103 (.load false 1 (t 2)),
   o 104 (.fieldAddr 4 (t 3)),
   o 105 (.load false 1 (t 104)),
   o 106 (.fieldAddr 5 (t 3)),
   o 107 (.load false 1 (t 106)),
   o 108 (.fieldAddr 8 (t 3)),
   o 109 (.load false 1 (t 108)),
   o 110 (.call 107 [(t 103), (t 105), (t 107), (t 109)]),
   o 8 (.alloc [(.pointer none)]),
   ⟨none, none, 0, .store 1 (t 8) (t 110)⟩])
 (.seq (.region [o 111 (.load false 1 (t 8)),
   o 112 (.mkFunc (.func 108) [] [(t 2), (t 8)]),
   o 113 (.call 50 [(t 111), (t 112)])])
 (.region [o 114 (.load false 1 (t 2)),
   o 115 (.load false 1 (t 8)),
   o 116 (.call 54 [(t 114), (t 115)])])))))))))⟩
theorem c70 : compFn Go.Proofs.Tryz.prog Go.Proofs.Tryz.f70 = some a70 := by kernel_rfl
def a71 : AFunc := ⟨72, [],
 (.seq (.region [o 2 (.box (t 0)),
   o 3 (.box (t 1))])
 (.seq (.seq (.draw [o 5 (.load false 1 (t 2)),
   o 6 (.fieldAddr 8 (t 3)),
   ⟨(some 7), none, 2, .load false 1 (t 6)⟩,
   ⟨(some 8), none, 7, .call 103 [(t 5), (t 7)]⟩,
   ⟨(some 9), none, 15, .un .not (t 8)⟩,
   ⟨(some 10), none, 31, .mv (t 9)⟩,
   ⟨(some 11), (some (10, false)), 63, .load false 1 (t 2)⟩,
   ⟨(some 12), (some (10, false)), 63, .fieldAddr 4 (t 3)⟩,
   ⟨(some 13), (some (10, false)), 191, .load false 1 (t 12)⟩,
   ⟨(some 14), (some (10, false)), 63, .fieldAddr 5 (t 3)⟩,
   ⟨(some 15), (some (10, false)), 575, .load false 1 (t 14)⟩,
   ⟨(some 16), (some (10, false)), 2047, .call 109 [(t 11), (t 13), (t 15)]⟩,
   ⟨(some 17), (some (10, false)), 4095, .un .not (t 16)⟩,
   ⟨(some 18), none, 8191, .pick (t 10) (.const (.bool true)) (t 17)⟩,
   ⟨(some 19), none, 16383, .mv (t 18)⟩,
   ⟨(some 20), (some (19, false)), 32767, .fieldAddr 6 (t 3)⟩,
   ⟨(some 21), (some (19, false)), 65535, .load false 1 (t 20)⟩,
   ⟨(some 22), (some (19, false)), 131071, .bin .lss (t 21) (.const (.int .i64 0))⟩,
   ⟨(some 23), none, 262143, .pick (t 19) (.const (.bool true)) (t 22)⟩,
   ⟨(some 24), none, 524287, .mv (t 23)⟩,
   ⟨(some 25), (some (24, false)), 1048575, .fieldAddr 6 (t 3)⟩,
   ⟨(some 26), (some (24, false)), 2097151, .load false 1 (t 25)⟩,
   ⟨(some 27), (some (24, false)), 1048575, .load false 1 (t 2)⟩,
   ⟨(some 28), (some (24, false)), 5242879, .nilCheck (t 27)⟩,
   ⟨(some 29), (some (24, false)), 13631487, .fieldAddr 18 (t 28)⟩,
   ⟨(some 30), (some (24, false)), 30408703, .load false 1 (t 29)⟩,
   ⟨(some 31), (some (24, false)), 67108863, .bin .gtr (t 26) (t 30)⟩,
   ⟨(some 32), none, 134217727, .pick (t 24) (.const (.bool true)) (t 31)⟩])
 (.cond (t 32)
  .ret
  .skip))
 (.seq (.region [o 33 (.load false 1 (t 2)),
   o 34 (.fieldAddr 4 (t 3)),
   o 35 (.load false 1 (t 34)),
   o 36 (.fieldAddr 5 (t 3)),
   o 37 (.load false 1 (t 36)),
   o 38 (.call 106 [(t 33), (t 35), (t 37)]),
   o 4 (.alloc [(.pointer none)]),
   ⟨none, none, 0, .store 1 (t 4) (t 38)⟩])
 (.seq (.seq (.region [o 39 (.load false 1 (t 4)),
   o 40 (.eqNil .ptr false (t 39) (.const (.pointer none)))])
 (.cond (t 40)
  (.seq (.region [o 41 (.load false 1 (t 2)),
    o 42 (.fieldAddr 4 (t 3)),
    o 43 (.load false 1 (t 42)),
    o 44 (.fieldAddr 5 (t 3)),
    o 45 (.load false 1 (t 44)),
    o 46 (.fieldAddr 8 (t 3)),
    o 47 (.load false 1 (t 46)),
    o 48 (.call 107 [(t 41), (t 43), (t 45), (t 47)]),
    ⟨none, none, 0, .store 1 (t 4) (t 48)⟩])
  (.region [o 49 (.load false 1 (t 4)),
    o 50 (.mkFunc (.func 110) [] [(t 2), (t 4)]),
    o 51 (.call 50 [(t 49), (t 50)])]))
  .skip))
 (.seq (.region [o 52 (.load false 1 (t 4)),
   o 53 (.nilCheck (t 52)),
   o 54 (.fieldAddr 4 (t 53)),
   ⟨none, none, 0, .store 1 (t 54) (.const (.bool true))⟩])
 (.seq (.draw [o 55 (.load false 1 (t 2)),
   ⟨(some 56), none, 1, .nilCheck (t 55)⟩,
   ⟨(some 57), none, 3, .fieldAddr 19 (t 56)⟩,
   o 58 (.fieldAddr 4 (t 3)),
   ⟨(some 59), none, 8, .load false 1 (t 58)⟩,
   o 60 (.fieldAddr 6 (t 3)),
   ⟨(some 61), none, 32, .load false 1 (t 60)⟩,
   o 62 (.load false 1 (t 2)),
   ⟨(some 63), none, 128, .nilCheck (t 62)⟩,
   ⟨(some 64), none, 384, .fieldAddr 2 (t 63)⟩,
   ⟨(some 65), none, 896, .fieldAddr 5 (t 64)⟩,
   ⟨(some 66), none, 1920, .load false 1 (t 65)⟩,
   ⟨(some 67), none, 4064, .bin .add (t 61) (t 66)⟩,
   ⟨(some 68), none, 8191, .call 111 [(t 57), (t 59), (t 67)]⟩])
 (.region [o 69 (.load false 1 (t 2)),
   o 70 (.load false 1 (t 4)),
   o 71 (.call 112 [(t 69), (t 70)])])))))))⟩
theorem c71 : compFn Go.Proofs.Tryz.prog Go.Proofs.Tryz.f71 = some a71 := by kernel_rfl
def a74 : AFunc := ⟨14, [],
 (.seq (.region [o 4 (.mv (t 0)),
   o 5 (.nilCheck (t 4)),
   o 6 (.fieldAddr 20 (t 5)),
   o 7 (.load false 1 (t 6)),
   o 8 (.mv (t 1)),
   ⟨none, none, 0, .delete .int (t 7) (t 8)⟩])
 (.region [o 9 (.mv (t 0)),
   o 10 (.nilCheck (t 9)),
   o 11 (.fieldAddr 19 (t 10)),
   o 12 (.mv (t 1)),
   o 13 (.call 115 [(t 11), (t 12)])]))⟩
theorem c74 : compFn Go.Proofs.Tryz.prog Go.Proofs.Tryz.f74 = some a74 := by kernel_rfl
def a75 : AFunc := ⟨20, [],
 (.seq (.region [o 2 (.box (t 0)),
   o 3 (.box (t 1))])
 (.seq (.region [o 6 (.load false 1 (t 2)),
   o 7 (.fieldAddr 4 (t 3)),
   o 8 (.load false 1 (t 7)),
   o 9 (.fieldAddr 5 (t 3)),
   o 10 (.load false 1 (t 9)),
   o 11 (.call 106 [(t 6), (t 8), (t 10)]),
   o 4 (.alloc [(.pointer none)]),
   ⟨none, none, 0, .store 1 (t 4) (t 11)⟩])
 (.seq (.seq (.region [o 12 (.load false 1 (t 4)),
   o 13 (.eqNil .ptr false (t 12) (.const (.pointer none)))])
 (.cond (t 13)
  .ret
  .skip))
 (.seq (.region [o 14 (.load false 1 (t 2)),
   o 15 (.load false 1 (t 4)),
   o 16 (.call 88 [(t 14), (t 15)]),
   o 5 (.alloc [(.slice none 0 0)]),
   ⟨none, none, 0, .store 1 (t 5) (t 16)⟩])
 (.region [o 17 (.load false 1 (t 4)),
   o 18 (.mkFunc (.func 116) [] [(t 3), (t 2), (t 5), (t 4)]),
   o 19 (.call 50 [(t 17), (t 18)])])))))⟩
theorem c75 : compFn Go.Proofs.Tryz.prog Go.Proofs.Tryz.f75 = some a75 := by kernel_rfl
def a76 : AFunc := ⟨97, [],
 (.seq (.region [o 3 (.box (t 1))])
 (.seq (.region [o 10 (.fieldAddr 10 (t 3)),
   o 11 (.load false 1 (t 10)),
   o 12 (.call 118 [(t 11)]),
   o 9 (.mv (t 12)),
   o 13 (.extract 0 (t 9)),
   o 14 (.extract 1 (t 9)),
   o 4 (.mv (t 13)),
   o 5 (.mv (t 14))])
 (.seq (.region [o 16 (.mv (t 0)),
   o 17 (.fieldAddr 4 (t 3)),
   o 18 (.load false 1 (t 17)),
   o 19 (.call 23 [(t 16), (t 18)]),
   o 15 (.mv (t 19)),
   o 20 (.extract 0 (t 15)),
   o 21 (.extract 1 (t 15)),
   o 22 (.extract 2 (t 15)),
   o 6 (.mv (t 20)),
   o 7 (.mv (t 21)),
   o 8 (.mv (t 22))])
 (.seq (.seq (.draw [o 23 (.mv (t 5)),
   ⟨(some 24), none, 1, .bin .neq (t 23) (.const (.int .i64 0))⟩,
   ⟨(some 25), none, 3, .mv (t 24)⟩,
   ⟨(some 26), (some (25, false)), 7, .fieldAddr 4 (t 3)⟩,
   ⟨(some 27), (some (25, false)), 15, .load false 1 (t 26)⟩,
   ⟨(some 28), (some (25, false)), 7, .fieldAddr 5 (t 3)⟩,
   ⟨(some 29), (some (25, false)), 39, .load false 1 (t 28)⟩,
   ⟨(some 30), (some (25, false)), 127, .min [(t 27), (t 29)]⟩,
   ⟨(some 31), (some (25, false)), 255, .bin .lss (t 30) (.const (.int .i64 1))⟩,
   ⟨(some 32), none, 511, .pick (t 25) (.const (.bool true)) (t 31)⟩,
   ⟨(some 33), none, 1023, .mv (t 32)⟩,
   ⟨(some 34), (some (33, false)), 2047, .mv (t 8)⟩,
   ⟨(some 35), (some (33, false)), 4095, .mv (t 34)⟩,
   ⟨(some 36), (some (35, true)), 8191, .mv (t 6)⟩,
   ⟨(some 37), (some (35, true)), 8191, .fieldAddr 5 (t 3)⟩,
   ⟨(some 38), (some (35, true)), 24575, .load false 1 (t 37)⟩,
   ⟨(some 39), (some (35, true)), 65535, .bin .gtr (t 36) (t 38)⟩,
   ⟨(some 40), (some (33, false)), 131071, .pick (t 35) (t 39) (.const (.bool false))⟩,
   ⟨(some 41), none, 262143, .pick (t 33) (.const (.bool true)) (t 40)⟩,
   ⟨(some 42), none, 524287, .mv (t 41)⟩,
   ⟨(some 43), (some (42, false)), 1048575, .mv (t 8)⟩,
   ⟨(some 44), (some (42, false)), 2097151, .un .not (t 43)⟩,
   ⟨(some 45), (some (42, false)), 4194303, .mv (t 44)⟩,
   ⟨(some 46), (some (45, true)), 8388607, .fieldAddr 5 (t 3)⟩,
   ⟨(some 47), (some (45, true)), 16777215, .load false 1 (t 46)⟩,
   ⟨(some 48), (some (45, true)), 8388607, .mv (t 0)⟩,
   ⟨(some 49), (some (45, true)), 41943039, .nilCheck (t 48)⟩,
   ⟨(some 50), (some (45, true)), 109051903, .fieldAddr 21 (t 49)⟩,
   ⟨(some 51), (some (45, true)), 243269631, .load false 1 (t 50)⟩,
   ⟨(some 52), (some (45, true)), 8388607, .fieldAddr 4 (t 3)⟩,
   ⟨(some 53), (some (45, true)), 545259519, .load false 1 (t 52)⟩,
   ⟨(some 54), (some (45, true)), 2122317823, .lookup .int (.int .i64 0) false (t 51) (t 53)⟩,
   ⟨(some 55), (some (45, true)), 4294967295, .bin .leq (t 47) (t 54)⟩,
   ⟨(some 56), (some (42, false)), 8589934591, .pick (t 45) (t 55) (.const (.bool false))⟩,
   ⟨(some 57), none, 17179869183, .pick (t 42) (.const (.bool true)) (t 56)⟩])
 (.cond (t 57)
  .ret
  .skip))
 (.seq (.seq (.region [o 58 (.mv (t 8)),
   o 59 (.un .not (t 58)),
   o 60 (.mv (t 59)),
   ⟨(some 61), (some (60, false)), 0, .mv (t 6)⟩,
   ⟨(some 62), (some (60, false)), 0, .fieldAddr 5 (t 3)⟩,
   ⟨(some 63), (some (60, false)), 0, .load false 1 (t 62)⟩,
   ⟨(some 64), (some (60, false)), 0, .bin .lss (t 61) (t 63)⟩,
   o 65 (.pick (t 60) (.const (.bool true)) (t 64))])
 (.cond (t 65)
  (.seq (.seq (.draw [o 66 (.mv (t 0)),
    ⟨(some 67), none, 1, .nilCheck (t 66)⟩,
    ⟨(some 68), none, 3, .fieldAddr 17 (t 67)⟩,
    ⟨(some 69), none, 7, .load false 1 (t 68)⟩,
    o 70 (.fieldAddr 4 (t 3)),
    ⟨(some 71), none, 16, .load false 1 (t 70)⟩,
    o 72 (.fieldAddr 5 (t 3)),
    ⟨(some 73), none, 64, .load false 1 (t 72)⟩,
    o 74 (.mv (t 4)),
    ⟨(some 75), none, 511, .call 119 [(t 69), (t 71), (t 73), (t 74)]⟩,
    ⟨(some 76), none, 1023, .bin .neq (t 75) (.const (.int .i64 0))⟩])
  (.cond (t 76)
   .ret
   .skip))
  (.seq (.region [o 77 (.mv (t 0)),
    o 78 (.fieldAddr 4 (t 3)),
    o 79 (.load false 1 (t 78)),
    o 80 (.call 74 [(t 77), (t 79)])])
  (.region [o 81 (.mv (t 4)),
    o 7 (.mv (t 81))])))
  .skip))
 (.draw [o 82 (.mv (t 0)),
   o 83 (.fieldAddr 1 (t 3)),
   ⟨(some 84), none, 2, .load false 1 (t 83)⟩,
   o 85 (.mv (t 0)),
   ⟨(some 86), none, 8, .nilCheck (t 85)⟩,
   ⟨(some 87), none, 24, .fieldAddr 1 (t 86)⟩,
   ⟨(some 88), none, 56, .load false 1 (t 87)⟩,
   o 89 (.fieldAddr 4 (t 3)),
   ⟨(some 90), none, 128, .load false 1 (t 89)⟩,
   o 91 (.fieldAddr 5 (t 3)),
   ⟨(some 92), none, 512, .load false 1 (t 91)⟩,
   o 93 (.mv (t 7)),
   ⟨(some 94), none, 2048, .lenSl (t 93)⟩,
   ⟨(some 95), none, 8190, .build [(.int .u8 0), (.int .i64 0), (.int .i64 0), (.int .i64 0), (.int .i64 0), (.int .i64 0), (.int .i64 0), (.bool false), (.slice none 0 0), (.slice none 0 0), (.string ⟨#[]⟩)] [(0, 1, (.const (.int .u8 13))), (2, 1, (t 84)), (3, 1, (t 88)), (4, 1, (t 90)), (5, 1, (t 92)), (6, 1, (t 94))]⟩,
   ⟨(some 96), none, 16383, .call 83 [(t 82), (t 95)]⟩]))))))⟩
theorem c76 : compFn Go.Proofs.Tryz.prog Go.Proofs.Tryz.f76 = some a76 := by kernel_rfl
end Go.Am.R1
