/- What the verifier tells of programs, run in the kernel (2). -/
import Derived.Test.YtfblhdiihlkmjaaGreatDoorData
namespace Go.Proofs.YtfblhdiihlkmjaaGreatDoor
open Go Go.Ev
theorem vI2x18_ok (t : TypeId) : memoOk (En []) tab t 100000 14 (vmI 25 (flawN 18 prI2) 19 9) = true := by kernel_rfl
theorem vI2x19_ok (t : TypeId) : memoOk (En []) tab t 100000 14 (vmI 25 (flawN 19 prI2) 21 9) = true := by kernel_rfl
theorem vI2x22_ok (t : TypeId) : memoOk (En []) tab t 100000 14 (vmI 25 (flawN 22 prI2) 24 9) = true := by kernel_rfl
theorem vI3_ok (t : TypeId) : memoOk (En []) tab t 100000 14 (vmI 25 prI3 0 0) = true := by kernel_rfl
theorem vI3x1_ok (t : TypeId) : memoOk (En []) tab t 100000 14 (vmI 25 (flawN 1 prI3) 4 9) = true := by kernel_rfl
theorem vI3x8_ok (t : TypeId) : memoOk (En []) tab t 100000 14 (vmI 25 (flawN 8 prI3) 11 9) = true := by kernel_rfl
theorem vI3x16_ok (t : TypeId) : memoOk (En []) tab t 100000 14 (vmI 25 (flawN 16 prI3) 17 8) = true := by kernel_rfl
theorem vI3x18_ok (t : TypeId) : memoOk (En []) tab t 100000 14 (vmI 25 (flawN 18 prI3) 19 9) = true := by kernel_rfl
theorem vI3x19_ok (t : TypeId) : memoOk (En []) tab t 100000 14 (vmI 25 (flawN 19 prI3) 21 9) = true := by kernel_rfl
theorem vI3x22_ok (t : TypeId) : memoOk (En []) tab t 100000 14 (vmI 25 (flawN 22 prI3) 24 9) = true := by kernel_rfl
end Go.Proofs.YtfblhdiihlkmjaaGreatDoor
