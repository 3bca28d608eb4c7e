/- What the verifier tells of programs, run in the kernel (3). -/
import Derived.Test.YtfblhdiihlkmjaaGreatDoorData
namespace Go.Proofs.YtfblhdiihlkmjaaGreatDoor
open Go Go.Ev
theorem vI4_ok (t : TypeId) : memoOk (En []) tab t 100000 14 (vmI 32 prI4 0 0) = true := by kernel_rfl
theorem vI4x8_ok (t : TypeId) : memoOk (En []) tab t 100000 14 (vmI 32 (flawN 8 prI4) 11 9) = true := by kernel_rfl
theorem vI4x15_ok (t : TypeId) : memoOk (En []) tab t 100000 14 (vmI 32 (flawN 15 prI4) 18 9) = true := by kernel_rfl
theorem vI4x18_ok (t : TypeId) : memoOk (En []) tab t 100000 14 (vmI 32 (flawN 18 prI4) 24 8) = true := by kernel_rfl
theorem vI4x21_ok (t : TypeId) : memoOk (En []) tab t 100000 14 (vmI 32 (flawN 21 prI4) 22 9) = true := by kernel_rfl
theorem vI4x22_ok (t : TypeId) : memoOk (En []) tab t 100000 14 (vmI 32 (flawN 22 prI4) 24 9) = true := by kernel_rfl
theorem vI4x26_ok (t : TypeId) : memoOk (En []) tab t 100000 14 (vmI 32 (flawN 26 prI4) 29 8) = true := by kernel_rfl
theorem vI4x27_ok (t : TypeId) : memoOk (En []) tab t 100000 14 (vmI 32 (flawN 27 prI4) 29 9) = true := by kernel_rfl
theorem vI5_ok (t : TypeId) : memoOk (En []) tab t 100000 14 (vmI 28 prI5 0 0) = true := by kernel_rfl
theorem vI5x1_ok (t : TypeId) : memoOk (En []) tab t 100000 14 (vmI 28 (flawN 1 prI5) 4 9) = true := by kernel_rfl
end Go.Proofs.YtfblhdiihlkmjaaGreatDoor
