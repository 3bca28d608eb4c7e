/- What the verifier tells of programs, run in the kernel (0). -/
import Derived.Test.YtfblhdiihlkmjaaGreatDoorData
namespace Go.Proofs.YtfblhdiihlkmjaaGreatDoor
open Go Go.Ev
theorem vI0_ok (t : TypeId) : memoOk (En []) tab t 100000 14 (vmI 32 prI0 0 0) = true := by kernel_rfl
theorem vI0x8_ok (t : TypeId) : memoOk (En []) tab t 100000 14 (vmI 32 (flawN 8 prI0) 11 9) = true := by kernel_rfl
theorem vI0x15_ok (t : TypeId) : memoOk (En []) tab t 100000 14 (vmI 32 (flawN 15 prI0) 18 9) = true := by kernel_rfl
theorem vI0x18_ok (t : TypeId) : memoOk (En []) tab t 100000 14 (vmI 32 (flawN 18 prI0) 24 8) = true := by kernel_rfl
theorem vI0x21_ok (t : TypeId) : memoOk (En []) tab t 100000 14 (vmI 32 (flawN 21 prI0) 22 9) = true := by kernel_rfl
theorem vI0x22_ok (t : TypeId) : memoOk (En []) tab t 100000 14 (vmI 32 (flawN 22 prI0) 24 9) = true := by kernel_rfl
theorem vI0x26_ok (t : TypeId) : memoOk (En []) tab t 100000 14 (vmI 32 (flawN 26 prI0) 29 8) = true := by kernel_rfl
theorem vI0x27_ok (t : TypeId) : memoOk (En []) tab t 100000 14 (vmI 32 (flawN 27 prI0) 29 9) = true := by kernel_rfl
theorem vI1_ok (t : TypeId) : memoOk (En []) tab t 100000 14 (vmI 32 prI1 0 0) = true := by kernel_rfl
theorem vI1x8_ok (t : TypeId) : memoOk (En []) tab t 100000 14 (vmI 32 (flawN 8 prI1) 11 9) = true := by kernel_rfl
end Go.Proofs.YtfblhdiihlkmjaaGreatDoor
