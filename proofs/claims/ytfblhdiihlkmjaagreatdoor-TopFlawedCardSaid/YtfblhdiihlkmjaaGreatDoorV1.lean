/- What the verifier tells of programs, run in the kernel (1). -/
import Derived.Test.YtfblhdiihlkmjaaGreatDoorData
namespace Go.Proofs.YtfblhdiihlkmjaaGreatDoor
open Go Go.Ev
theorem vI1x15_ok (t : TypeId) : memoOk (En []) tab t 100000 14 (vmI 32 (flawN 15 prI1) 18 9) = true := by kernel_rfl
theorem vI1x18_ok (t : TypeId) : memoOk (En []) tab t 100000 14 (vmI 32 (flawN 18 prI1) 24 8) = true := by kernel_rfl
theorem vI1x21_ok (t : TypeId) : memoOk (En []) tab t 100000 14 (vmI 32 (flawN 21 prI1) 22 9) = true := by kernel_rfl
theorem vI1x22_ok (t : TypeId) : memoOk (En []) tab t 100000 14 (vmI 32 (flawN 22 prI1) 24 9) = true := by kernel_rfl
theorem vI1x26_ok (t : TypeId) : memoOk (En []) tab t 100000 14 (vmI 32 (flawN 26 prI1) 29 8) = true := by kernel_rfl
theorem vI1x27_ok (t : TypeId) : memoOk (En []) tab t 100000 14 (vmI 32 (flawN 27 prI1) 29 9) = true := by kernel_rfl
theorem vI2_ok (t : TypeId) : memoOk (En []) tab t 100000 14 (vmI 25 prI2 0 0) = true := by kernel_rfl
theorem vI2x1_ok (t : TypeId) : memoOk (En []) tab t 100000 14 (vmI 25 (flawN 1 prI2) 4 9) = true := by kernel_rfl
theorem vI2x8_ok (t : TypeId) : memoOk (En []) tab t 100000 14 (vmI 25 (flawN 8 prI2) 11 9) = true := by kernel_rfl
theorem vI2x16_ok (t : TypeId) : memoOk (En []) tab t 100000 14 (vmI 25 (flawN 16 prI2) 17 8) = true := by kernel_rfl
end Go.Proofs.YtfblhdiihlkmjaaGreatDoor
