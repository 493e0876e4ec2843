/-
  DERIVED: THE SHELF's CONTRACTS AT THIS DUMP, IN PLAIN WORDS (tools/lay-plain.mjs out of 'TryzLay.lean', which tools/lay-shelf.mjs wrote): THE SAME DECLARATIONS UNDER THE SAME NAMES: 'import', 'namespace', 'open', 'def', 'theorem' AND NOTHING ELSE: no command of the shelf's: FOR A HAND-IN. Each laying: the table of numbers ('.._ren') and one theorem, a field a fact of the dump's own or the kernel's comparison; each contract: ONE APPLICATION.
-/
import Derived.Shelf.SlLaysZ
import Derived.Shelf.SlLaysZI
import Derived.Shelf.SlLaysM
import Derived.Shelf.LaysM
import Derived.Test.YtdmijaofelgonaaGreatDoorProg
import Derived.Test.YtdmijaofelgonaaGreatDoorRaF2
import Derived.Shelf.SlIter.Nil
import Derived.Shelf.SlIterI.Nil
import Derived.Shelf.SortM.Plain
import Derived.Shelf.SortM.SortNone
import Derived.Shelf.Strconv.Clone
namespace Go.Proofs
open Go.Shelf
def Tryz.it133_ren : Go.Shelf.Ren := ⟨fun | 10 => 133 | n => n, fun | 33 => 193 | 23 => 89 | 0 => 0 | 4 => 4 | 26 => 9 | 3 => 116 | n => n, fun | n => n⟩
theorem Tryz.it133 : Go.Proofs.SlLaysZ.n10 Tryz.prog Tryz.it133_ren := {
  mixed := by kernel_rfl
  f10 := ⟨Tryz.f133.name, by decide, Tryz.func133.trans (congrArg some (by kernel_rfl))⟩
  t0 := Tryz.underlying0
  a0 := Tryz.isAgg0
  z0 := Tryz.sizeOf0
  v0 := Tryz.zeroValue0
  t4 := Tryz.underlying4
  a4 := Tryz.isAgg4
  z4 := Tryz.sizeOf4
  v4 := Tryz.zeroValue4
  t23 := Tryz.underlying89
  a23 := Tryz.isAgg89
  z23 := Tryz.sizeOf89
  v23 := Tryz.zeroValue89
  t26 := Tryz.underlying9
  a26 := Tryz.isAgg9
  z26 := Tryz.sizeOf9
  v26 := Tryz.zeroValue9
  t33 := Tryz.underlying193
  a33 := Tryz.isAgg193
  z33 := Tryz.sizeOf193
  v33 := Tryz.zeroValue193 }
def Tryz.sorted90_ren : Go.Shelf.Ren := ⟨fun | 6 => 90 | 8 => 131 | 9 => 132 | 11 => 175 | 13 => 127 | 12 => 176 | 23 => 168 | 24 => 169 | 14 => 203 | 15 => 204 | 16 => 205 | 17 => 206 | 18 => 207 | 19 => 208 | 20 => 209 | 21 => 210 | 22 => 211 | 25 => 219 | 26 => 198 | 27 => 199 | 28 => 220 | 29 => 221 | 30 => 222 | 31 => 227 | n => n, fun | 26 => 9 | 28 => 151 | 24 => 114 | 0 => 0 | 3 => 3 | 37 => 158 | 48 => 217 | 50 => 75 | 4 => 4 | 40 => 211 | 39 => 210 | 45 => 53 | 5 => 5 | 9 => 9 | 51 => 235 | 55 => 238 | 57 => 255 | 58 => 256 | 33 => 193 | n => n, fun | n => n⟩
theorem Tryz.sorted90 : Go.Proofs.SlLaysZ.n6 Tryz.prog Tryz.sorted90_ren := {
  mixed := by kernel_rfl
  f6 := ⟨Tryz.f90.name, by decide, Tryz.func90.trans (congrArg some (by kernel_rfl))⟩
  f8 := ⟨Tryz.f131.name, by decide, Tryz.func131.trans (congrArg some (by kernel_rfl))⟩
  f11 := ⟨Tryz.f175.name, by decide, Tryz.func175.trans (congrArg some (by kernel_rfl))⟩
  t0 := Tryz.underlying0
  a0 := Tryz.isAgg0
  z0 := Tryz.sizeOf0
  v0 := Tryz.zeroValue0
  t24 := Tryz.underlying114
  a24 := Tryz.isAgg114
  z24 := Tryz.sizeOf114
  v24 := Tryz.zeroValue114
  t26 := Tryz.underlying9
  a26 := Tryz.isAgg9
  z26 := Tryz.sizeOf9
  v26 := Tryz.zeroValue9
  t28 := Tryz.underlying151
  a28 := Tryz.isAgg151
  z28 := Tryz.sizeOf151
  v28 := Tryz.zeroValue151
  i26 := by kernel_rfl }
def Tryz.sort132_ren : Go.Shelf.Ren := ⟨fun | 6 => 132 | 8 => 127 | 9 => 176 | 19 => 168 | 20 => 169 | 21 => 203 | 22 => 204 | 23 => 205 | 24 => 206 | 25 => 207 | 26 => 208 | 27 => 209 | 28 => 210 | 29 => 211 | 36 => 219 | 31 => 198 | 32 => 199 | 37 => 220 | 38 => 221 | 39 => 222 | 41 => 227 | n => n, fun | 27 => 114 | 29 => 9 | 3 => 3 | 32 => 158 | 26 => 114 | 0 => 0 | 44 => 217 | 46 => 75 | 4 => 4 | 36 => 211 | 35 => 210 | 41 => 53 | 5 => 5 | 9 => 9 | 53 => 235 | 57 => 238 | 63 => 255 | 64 => 256 | n => n, fun | n => n⟩
theorem Tryz.sort132 : Go.Proofs.SlLaysM.n6 Tryz.prog Tryz.sort132_ren := {
  mixed := by kernel_rfl
  f6 := ⟨Tryz.f132.name, by decide, Tryz.func132.trans (congrArg some (by kernel_rfl))⟩
  f8 := Tryz.func127.trans (congrArg some (by kernel_rfl))
  f9 := ⟨Tryz.f176.name, by decide, Tryz.func176.trans (congrArg some (by kernel_rfl))⟩
  f19 := Tryz.func168.trans (congrArg some (by kernel_rfl))
  f20 := Tryz.func169.trans (congrArg some (by kernel_rfl))
  f21 := ⟨Tryz.f203.name, by decide, Tryz.func203.trans (congrArg some (by kernel_rfl))⟩
  f22 := ⟨Tryz.f204.name, by decide, Tryz.func204.trans (congrArg some (by kernel_rfl))⟩
  f23 := ⟨Tryz.f205.name, by decide, Tryz.func205.trans (congrArg some (by kernel_rfl))⟩
  f24 := ⟨Tryz.f206.name, by decide, Tryz.func206.trans (congrArg some (by kernel_rfl))⟩
  f25 := ⟨Tryz.f207.name, by decide, Tryz.func207.trans (congrArg some (by kernel_rfl))⟩
  f26 := ⟨Tryz.f208.name, by decide, Tryz.func208.trans (congrArg some (by kernel_rfl))⟩
  f27 := ⟨Tryz.f209.name, by decide, Tryz.func209.trans (congrArg some (by kernel_rfl))⟩
  f28 := ⟨Tryz.f210.name, by decide, Tryz.func210.trans (congrArg some (by kernel_rfl))⟩
  f29 := ⟨Tryz.f211.name, by decide, Tryz.func211.trans (congrArg some (by kernel_rfl))⟩
  f31 := Tryz.func198.trans (congrArg some (by kernel_rfl))
  f32 := Tryz.func199.trans (congrArg some (by kernel_rfl))
  f36 := ⟨Tryz.f219.name, by decide, Tryz.func219.trans (congrArg some (by kernel_rfl))⟩
  f37 := ⟨Tryz.f220.name, by decide, Tryz.func220.trans (congrArg some (by kernel_rfl))⟩
  f38 := ⟨Tryz.f221.name, by decide, Tryz.func221.trans (congrArg some (by kernel_rfl))⟩
  f39 := ⟨Tryz.f222.name, by decide, Tryz.func222.trans (congrArg some (by kernel_rfl))⟩
  f41 := ⟨Tryz.f227.name, by decide, Tryz.func227.trans (congrArg some (by kernel_rfl))⟩
  t0 := Tryz.underlying0
  a0 := Tryz.isAgg0
  z0 := Tryz.sizeOf0
  v0 := Tryz.zeroValue0
  t3 := Tryz.underlying3
  a3 := Tryz.isAgg3
  z3 := Tryz.sizeOf3
  v3 := Tryz.zeroValue3
  t4 := Tryz.underlying4
  a4 := Tryz.isAgg4
  z4 := Tryz.sizeOf4
  v4 := Tryz.zeroValue4
  t5 := Tryz.underlying5
  a5 := Tryz.isAgg5
  z5 := Tryz.sizeOf5
  v5 := Tryz.zeroValue5
  t9 := Tryz.underlying9
  a9 := Tryz.isAgg9
  z9 := Tryz.sizeOf9
  v9 := Tryz.zeroValue9
  t26 := Tryz.underlying114
  a26 := Tryz.isAgg114
  z26 := Tryz.sizeOf114
  v26 := Tryz.zeroValue114
  t27 := Tryz.underlying114
  a27 := Tryz.isAgg114
  z27 := Tryz.sizeOf114
  v27 := Tryz.zeroValue114
  t29 := Tryz.underlying9
  a29 := Tryz.isAgg9
  z29 := Tryz.sizeOf9
  v29 := Tryz.zeroValue9
  t32 := Tryz.underlying158
  a32 := Tryz.isAgg158
  z32 := Tryz.sizeOf158
  v32 := Tryz.zeroValue158
  t35 := Tryz.underlying210
  a35 := Tryz.isAgg210
  z35 := Tryz.sizeOf210
  v35 := Tryz.zeroValue210
  t36 := Tryz.underlying211
  a36 := Tryz.isAgg211
  z36 := Tryz.sizeOf211
  v36 := Tryz.zeroValue211
  t41 := Tryz.underlying53
  a41 := Tryz.isAgg53
  z41 := Tryz.sizeOf53
  v41 := Tryz.zeroValue53
  t44 := Tryz.underlying217
  a44 := Tryz.isAgg217
  z44 := Tryz.sizeOf217
  v44 := Tryz.zeroValue217
  t46 := Tryz.underlying75
  a46 := Tryz.isAgg75
  z46 := Tryz.sizeOf75
  v46 := Tryz.zeroValue75
  t53 := Tryz.underlying235
  a53 := Tryz.isAgg235
  z53 := Tryz.sizeOf235
  v53 := Tryz.zeroValue235
  t57 := Tryz.underlying238
  a57 := Tryz.isAgg238
  z57 := Tryz.sizeOf238
  v57 := Tryz.zeroValue238
  t63 := Tryz.underlying255
  a63 := Tryz.isAgg255
  z63 := Tryz.sizeOf255
  v63 := Tryz.zeroValue255
  t64 := Tryz.underlying256
  a64 := Tryz.isAgg256
  z64 := Tryz.sizeOf256
  v64 := Tryz.zeroValue256 }
def Tryz.it86_ren : Go.Shelf.Ren := ⟨fun | 10 => 86 | n => n, fun | 33 => 145 | 23 => 82 | 0 => 0 | 4 => 4 | 26 => 3 | 3 => 97 | n => n, fun | n => n⟩
theorem Tryz.it86 : Go.Proofs.SlLaysZI.n10 Tryz.prog Tryz.it86_ren := {
  mixed := by kernel_rfl
  f10 := ⟨Tryz.f86.name, by decide, Tryz.func86.trans (congrArg some (by kernel_rfl))⟩
  t0 := Tryz.underlying0
  a0 := Tryz.isAgg0
  z0 := Tryz.sizeOf0
  v0 := Tryz.zeroValue0
  t4 := Tryz.underlying4
  a4 := Tryz.isAgg4
  z4 := Tryz.sizeOf4
  v4 := Tryz.zeroValue4
  t23 := Tryz.underlying82
  a23 := Tryz.isAgg82
  z23 := Tryz.sizeOf82
  v23 := Tryz.zeroValue82
  t26 := Tryz.underlying3
  a26 := Tryz.isAgg3
  z26 := Tryz.sizeOf3
  v26 := Tryz.zeroValue3
  t33 := Tryz.underlying145
  a33 := Tryz.isAgg145
  z33 := Tryz.sizeOf145
  v33 := Tryz.zeroValue145 }
def Tryz.it124_ren : Go.Shelf.Ren := ⟨fun | 10 => 124 | n => n, fun | 33 => 145 | 23 => 132 | 0 => 0 | 4 => 4 | 26 => 3 | 3 => 141 | n => n, fun | n => n⟩
theorem Tryz.it124 : Go.Proofs.SlLaysZI.n10 Tryz.prog Tryz.it124_ren := {
  mixed := by kernel_rfl
  f10 := ⟨Tryz.f124.name, by decide, Tryz.func124.trans (congrArg some (by kernel_rfl))⟩
  t0 := Tryz.underlying0
  a0 := Tryz.isAgg0
  z0 := Tryz.sizeOf0
  v0 := Tryz.zeroValue0
  t4 := Tryz.underlying4
  a4 := Tryz.isAgg4
  z4 := Tryz.sizeOf4
  v4 := Tryz.zeroValue4
  t23 := Tryz.underlying132
  a23 := Tryz.isAgg132
  z23 := Tryz.sizeOf132
  v23 := Tryz.zeroValue132
  t26 := Tryz.underlying3
  a26 := Tryz.isAgg3
  z26 := Tryz.sizeOf3
  v26 := Tryz.zeroValue3
  t33 := Tryz.underlying145
  a33 := Tryz.isAgg145
  z33 := Tryz.sizeOf145
  v33 := Tryz.zeroValue145 }
def Tryz.it149_ren : Go.Shelf.Ren := ⟨fun | 10 => 149 | n => n, fun | 33 => 145 | 23 => 83 | 0 => 0 | 4 => 4 | 26 => 3 | 3 => 3 | n => n, fun | n => n⟩
theorem Tryz.it149 : Go.Proofs.SlLaysZI.n10 Tryz.prog Tryz.it149_ren := {
  mixed := by kernel_rfl
  f10 := ⟨Tryz.f149.name, by decide, Tryz.func149.trans (congrArg some (by kernel_rfl))⟩
  t0 := Tryz.underlying0
  a0 := Tryz.isAgg0
  z0 := Tryz.sizeOf0
  v0 := Tryz.zeroValue0
  t4 := Tryz.underlying4
  a4 := Tryz.isAgg4
  z4 := Tryz.sizeOf4
  v4 := Tryz.zeroValue4
  t23 := Tryz.underlying83
  a23 := Tryz.isAgg83
  z23 := Tryz.sizeOf83
  v23 := Tryz.zeroValue83
  t26 := Tryz.underlying3
  a26 := Tryz.isAgg3
  z26 := Tryz.sizeOf3
  v26 := Tryz.zeroValue3
  t33 := Tryz.underlying145
  a33 := Tryz.isAgg145
  z33 := Tryz.sizeOf145
  v33 := Tryz.zeroValue145 }
def Tryz.sorted48_ren : Go.Shelf.Ren := ⟨fun | 6 => 48 | 8 => 84 | 9 => 85 | 11 => 125 | 13 => 127 | 12 => 126 | 23 => 168 | 24 => 169 | 14 => 159 | 15 => 160 | 16 => 161 | 17 => 162 | 18 => 163 | 19 => 164 | 20 => 165 | 21 => 166 | 22 => 167 | 25 => 197 | 26 => 198 | 27 => 199 | 28 => 200 | 29 => 201 | 30 => 202 | 31 => 218 | n => n, fun | 26 => 3 | 28 => 105 | 24 => 37 | 0 => 0 | 3 => 3 | 37 => 158 | 48 => 217 | 50 => 75 | 4 => 4 | 40 => 211 | 39 => 210 | 45 => 53 | 5 => 5 | 9 => 9 | 51 => 235 | 55 => 238 | 57 => 255 | 58 => 256 | 33 => 145 | n => n, fun | n => n⟩
theorem Tryz.sorted48 : Go.Proofs.SlLaysZI.n6 Tryz.prog Tryz.sorted48_ren := {
  mixed := by kernel_rfl
  f6 := ⟨Tryz.f48.name, by decide, Tryz.func48.trans (congrArg some (by kernel_rfl))⟩
  f8 := ⟨Tryz.f84.name, by decide, Tryz.func84.trans (congrArg some (by kernel_rfl))⟩
  f11 := ⟨Tryz.f125.name, by decide, Tryz.func125.trans (congrArg some (by kernel_rfl))⟩
  t0 := Tryz.underlying0
  a0 := Tryz.isAgg0
  z0 := Tryz.sizeOf0
  v0 := Tryz.zeroValue0
  t24 := Tryz.underlying37
  a24 := Tryz.isAgg37
  z24 := Tryz.sizeOf37
  v24 := Tryz.zeroValue37
  t26 := Tryz.underlying3
  a26 := Tryz.isAgg3
  z26 := Tryz.sizeOf3
  v26 := Tryz.zeroValue3
  t28 := Tryz.underlying105
  a28 := Tryz.isAgg105
  z28 := Tryz.sizeOf105
  v28 := Tryz.zeroValue105
  i26 := by kernel_rfl }
def Tryz.sort85_ren : Go.Shelf.Ren := ⟨fun | 5 => 85 | 8 => 127 | 7 => 126 | 19 => 168 | 20 => 169 | 10 => 159 | 11 => 160 | 12 => 161 | 13 => 162 | 14 => 163 | 15 => 164 | 16 => 165 | 17 => 166 | 18 => 167 | 30 => 197 | 31 => 198 | 32 => 199 | 33 => 200 | 34 => 201 | 35 => 202 | 40 => 218 | n => n, fun | 23 => 37 | 25 => 3 | 3 => 3 | 32 => 158 | 22 => 37 | 0 => 0 | 44 => 217 | 46 => 75 | 4 => 4 | 36 => 211 | 35 => 210 | 41 => 53 | 5 => 5 | 9 => 9 | 53 => 235 | 57 => 238 | 63 => 255 | 64 => 256 | n => n, fun | n => n⟩
theorem Tryz.sort85 : Go.Proofs.SlLaysM.n5 Tryz.prog Tryz.sort85_ren := {
  mixed := by kernel_rfl
  f5 := ⟨Tryz.f85.name, by decide, Tryz.func85.trans (congrArg some (by kernel_rfl))⟩
  f7 := ⟨Tryz.f126.name, by decide, Tryz.func126.trans (congrArg some (by kernel_rfl))⟩
  f8 := Tryz.func127.trans (congrArg some (by kernel_rfl))
  f10 := ⟨Tryz.f159.name, by decide, Tryz.func159.trans (congrArg some (by kernel_rfl))⟩
  f11 := ⟨Tryz.f160.name, by decide, Tryz.func160.trans (congrArg some (by kernel_rfl))⟩
  f12 := ⟨Tryz.f161.name, by decide, Tryz.func161.trans (congrArg some (by kernel_rfl))⟩
  f13 := ⟨Tryz.f162.name, by decide, Tryz.func162.trans (congrArg some (by kernel_rfl))⟩
  f14 := ⟨Tryz.f163.name, by decide, Tryz.func163.trans (congrArg some (by kernel_rfl))⟩
  f15 := ⟨Tryz.f164.name, by decide, Tryz.func164.trans (congrArg some (by kernel_rfl))⟩
  f16 := ⟨Tryz.f165.name, by decide, Tryz.func165.trans (congrArg some (by kernel_rfl))⟩
  f17 := ⟨Tryz.f166.name, by decide, Tryz.func166.trans (congrArg some (by kernel_rfl))⟩
  f18 := ⟨Tryz.f167.name, by decide, Tryz.func167.trans (congrArg some (by kernel_rfl))⟩
  f19 := Tryz.func168.trans (congrArg some (by kernel_rfl))
  f20 := Tryz.func169.trans (congrArg some (by kernel_rfl))
  f30 := ⟨Tryz.f197.name, by decide, Tryz.func197.trans (congrArg some (by kernel_rfl))⟩
  f31 := Tryz.func198.trans (congrArg some (by kernel_rfl))
  f32 := Tryz.func199.trans (congrArg some (by kernel_rfl))
  f33 := ⟨Tryz.f200.name, by decide, Tryz.func200.trans (congrArg some (by kernel_rfl))⟩
  f34 := ⟨Tryz.f201.name, by decide, Tryz.func201.trans (congrArg some (by kernel_rfl))⟩
  f35 := ⟨Tryz.f202.name, by decide, Tryz.func202.trans (congrArg some (by kernel_rfl))⟩
  f40 := ⟨Tryz.f218.name, by decide, Tryz.func218.trans (congrArg some (by kernel_rfl))⟩
  t0 := Tryz.underlying0
  a0 := Tryz.isAgg0
  z0 := Tryz.sizeOf0
  v0 := Tryz.zeroValue0
  t3 := Tryz.underlying3
  a3 := Tryz.isAgg3
  z3 := Tryz.sizeOf3
  v3 := Tryz.zeroValue3
  t4 := Tryz.underlying4
  a4 := Tryz.isAgg4
  z4 := Tryz.sizeOf4
  v4 := Tryz.zeroValue4
  t5 := Tryz.underlying5
  a5 := Tryz.isAgg5
  z5 := Tryz.sizeOf5
  v5 := Tryz.zeroValue5
  t9 := Tryz.underlying9
  a9 := Tryz.isAgg9
  z9 := Tryz.sizeOf9
  v9 := Tryz.zeroValue9
  t22 := Tryz.underlying37
  a22 := Tryz.isAgg37
  z22 := Tryz.sizeOf37
  v22 := Tryz.zeroValue37
  t23 := Tryz.underlying37
  a23 := Tryz.isAgg37
  z23 := Tryz.sizeOf37
  v23 := Tryz.zeroValue37
  t25 := Tryz.underlying3
  a25 := Tryz.isAgg3
  z25 := Tryz.sizeOf3
  v25 := Tryz.zeroValue3
  t32 := Tryz.underlying158
  a32 := Tryz.isAgg158
  z32 := Tryz.sizeOf158
  v32 := Tryz.zeroValue158
  t35 := Tryz.underlying210
  a35 := Tryz.isAgg210
  z35 := Tryz.sizeOf210
  v35 := Tryz.zeroValue210
  t36 := Tryz.underlying211
  a36 := Tryz.isAgg211
  z36 := Tryz.sizeOf211
  v36 := Tryz.zeroValue211
  t41 := Tryz.underlying53
  a41 := Tryz.isAgg53
  z41 := Tryz.sizeOf53
  v41 := Tryz.zeroValue53
  t44 := Tryz.underlying217
  a44 := Tryz.isAgg217
  z44 := Tryz.sizeOf217
  v44 := Tryz.zeroValue217
  t46 := Tryz.underlying75
  a46 := Tryz.isAgg75
  z46 := Tryz.sizeOf75
  v46 := Tryz.zeroValue75
  t53 := Tryz.underlying235
  a53 := Tryz.isAgg235
  z53 := Tryz.sizeOf235
  v53 := Tryz.zeroValue235
  t57 := Tryz.underlying238
  a57 := Tryz.isAgg238
  z57 := Tryz.sizeOf238
  v57 := Tryz.zeroValue238
  t63 := Tryz.underlying255
  a63 := Tryz.isAgg255
  z63 := Tryz.sizeOf255
  v63 := Tryz.zeroValue255
  t64 := Tryz.underlying256
  a64 := Tryz.isAgg256
  z64 := Tryz.sizeOf256
  v64 := Tryz.zeroValue256 }
def Tryz.laysM316_ren : Go.Shelf.Ren := ⟨fun | 316 => 212 | n => n, fun | 9 => 9 | 3 => 3 | 4 => 4 | 37 => 130 | 0 => 0 | 127 => 260 | 5 => 5 | n => n, fun | n => n⟩
theorem Tryz.laysM316 : Go.Proofs.LaysM.n316 Tryz.prog Tryz.laysM316_ren := {
  mixed := by kernel_rfl
  f316 := Tryz.func212.trans (congrArg some (by kernel_rfl))
  t0 := Tryz.underlying0
  a0 := Tryz.isAgg0
  z0 := Tryz.sizeOf0
  v0 := Tryz.zeroValue0
  t3 := Tryz.underlying3
  a3 := Tryz.isAgg3
  z3 := Tryz.sizeOf3
  v3 := Tryz.zeroValue3
  t4 := Tryz.underlying4
  a4 := Tryz.isAgg4
  z4 := Tryz.sizeOf4
  v4 := Tryz.zeroValue4
  t9 := Tryz.underlying9
  a9 := Tryz.isAgg9
  z9 := Tryz.sizeOf9
  v9 := Tryz.zeroValue9
  t37 := Tryz.underlying130
  a37 := Tryz.isAgg130
  z37 := Tryz.sizeOf130
  v37 := Tryz.zeroValue130
  t127 := Tryz.underlying260
  a127 := Tryz.isAgg260
  z127 := Tryz.sizeOf260
  v127 := Tryz.zeroValue260
  t5 := Tryz.underlying5
  a5 := Tryz.isAgg5
  z5 := Tryz.sizeOf5
  v5 := Tryz.zeroValue5
  i0 := by kernel_rfl
  i3 := by kernel_rfl
  i4 := by kernel_rfl
  i5 := by kernel_rfl
  i9 := by kernel_rfl
  i37 := by kernel_rfl
  i127 := by kernel_rfl }
end Go.Proofs

/-
  The primitives of the abstract machine at this program, and the table of its functions.
-/
set_option maxRecDepth 100000
namespace Go.Am.R1
open Go Go.Am Go.Proofs Go.RowKit Go.Maps Go.Sort Go.Shelf

theorem sorts48 : AnyZI.SortsIn Tryz.prog Tryz.sorted48_ren Fence.wide 4 :=
  ⟨fun blk off cap ss W hH hblk hsz => callsIn_wide.2 (AnyM.slices_Sort_int Tryz.sort85 blk off cap ss W hH hblk hsz),
   fun p cap W => callsIn_wide.2 (AnyM.slices_Sort_int_none Tryz.sort85 p cap W)⟩
theorem sorts90 : AnyZ.SortsIn Tryz.prog Tryz.sorted90_ren Fence.wide 4 :=
  ⟨fun blk off cap ss W hH hblk hsz => callsIn_wide.2 (AnyM.slices_Sort_string Tryz.sort132 blk off cap ss W hH hblk hsz),
   fun p cap W => callsIn_wide.2 (AnyM.slices_Sort_string_none Tryz.sort132 p cap W)⟩
theorem k48 : FnOk Tryz.prog 48 (sortedKeys .int [86, 124, 149]) :=
  keys_int_ok (ρ6 := Tryz.sorted48_ren) Tryz.sorted48 sorts48 (enters_of Tryz.func85 (by kernel_rfl) rfl) (enters_of Tryz.func48 (by kernel_rfl) rfl) (fun g hg => by
    rcases List.mem_cons.1 hg with rfl | hg
    · exact ⟨Tryz.it86_ren, Tryz.it86, rfl, Tryz.it86.t26, enters_of Tryz.func86 (by kernel_rfl) rfl⟩
    · rcases List.mem_cons.1 hg with rfl | hg
      · exact ⟨Tryz.it124_ren, Tryz.it124, rfl, Tryz.it124.t26, enters_of Tryz.func124 (by kernel_rfl) rfl⟩
      · rcases List.mem_cons.1 hg with rfl | hg
        · exact ⟨Tryz.it149_ren, Tryz.it149, rfl, Tryz.it149.t26, enters_of Tryz.func149 (by kernel_rfl) rfl⟩
        · cases hg)
theorem k90 : FnOk Tryz.prog 90 (sortedKeys .str [133]) :=
  keys_str_ok (ρ6 := Tryz.sorted90_ren) Tryz.sorted90 sorts90 (enters_of Tryz.func132 (by kernel_rfl) rfl) (enters_of Tryz.func90 (by kernel_rfl) rfl) (fun g hg => by
    rcases List.mem_cons.1 hg with rfl | hg
    · exact ⟨Tryz.it133_ren, Tryz.it133, rfl, Tryz.it133.t26, enters_of Tryz.func133 (by kernel_rfl) rfl⟩
    · cases hg)
theorem k212 : FnOk Tryz.prog 212 cloneStr :=
  clone_ok (enters_of Tryz.func212 (by kernel_rfl) rfl) (fun b w hb => Any.stringslite_Clone Tryz.laysM316 b w (by omega))

theorem tabOk : TabOk Tryz.prog tabT.get := tab_ok k48 k90 k212
theorem runs (k : Nat) : CallOk Tryz.prog (acall tabT.get [] k) := acall_ok (fun _ h => by cases h) Tryz.it133.mixed tabOk k
end Go.Am.R1
