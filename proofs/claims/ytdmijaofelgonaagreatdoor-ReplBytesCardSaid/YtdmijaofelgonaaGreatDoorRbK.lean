/-
  The compiled functions are the program's. Written by program.
-/
import Derived.Test.YtdmijaofelgonaaGreatDoorRbD
import Derived.KernelRfl
import Derived.Test.YtdmijaofelgonaaGreatDoorProg
set_option maxRecDepth 100000
namespace Go.Am.R1B
open Go Go.Am
theorem c3 : compFn Go.Proofs.Tryz.prog Go.Proofs.Tryz.f3 = some a3 := by kernel_rfl
theorem c7 : compFn Go.Proofs.Tryz.prog Go.Proofs.Tryz.f7 = some a7 := by kernel_rfl
theorem c8 : compFn Go.Proofs.Tryz.prog Go.Proofs.Tryz.f8 = some a8 := by kernel_rfl
theorem c9 : compFn Go.Proofs.Tryz.prog Go.Proofs.Tryz.f9 = some a9 := by kernel_rfl
theorem c10 : compFn Go.Proofs.Tryz.prog Go.Proofs.Tryz.f10 = some a10 := by kernel_rfl
theorem c25 : compFn Go.Proofs.Tryz.prog Go.Proofs.Tryz.f25 = some a25 := by kernel_rfl
theorem c26 : compFn Go.Proofs.Tryz.prog Go.Proofs.Tryz.f26 = some a26 := by kernel_rfl
theorem c27 : compFn Go.Proofs.Tryz.prog Go.Proofs.Tryz.f27 = some a27 := by kernel_rfl
theorem c28 : compFn Go.Proofs.Tryz.prog Go.Proofs.Tryz.f28 = some a28 := by kernel_rfl
theorem c29 : compFn Go.Proofs.Tryz.prog Go.Proofs.Tryz.f29 = some a29 := by kernel_rfl
theorem c30 : compFn Go.Proofs.Tryz.prog Go.Proofs.Tryz.f30 = some a30 := by kernel_rfl
theorem c31 : compFn Go.Proofs.Tryz.prog Go.Proofs.Tryz.f31 = some a31 := by kernel_rfl
theorem c32 : compFn Go.Proofs.Tryz.prog Go.Proofs.Tryz.f32 = some a32 := by kernel_rfl
theorem c60 : compFn Go.Proofs.Tryz.prog Go.Proofs.Tryz.f60 = some a60 := by kernel_rfl
theorem c61 : compFn Go.Proofs.Tryz.prog Go.Proofs.Tryz.f61 = some a61 := by kernel_rfl
theorem c62 : compFn Go.Proofs.Tryz.prog Go.Proofs.Tryz.f62 = some a62 := by kernel_rfl
theorem c63 : compFn Go.Proofs.Tryz.prog Go.Proofs.Tryz.f63 = some a63 := by kernel_rfl
theorem c64 : compFn Go.Proofs.Tryz.prog Go.Proofs.Tryz.f64 = some a64 := by kernel_rfl
theorem c65 : compFn Go.Proofs.Tryz.prog Go.Proofs.Tryz.f65 = some a65 := by kernel_rfl
theorem c94 : compFn Go.Proofs.Tryz.prog Go.Proofs.Tryz.f94 = some a94 := by kernel_rfl
end Go.Am.R1B
