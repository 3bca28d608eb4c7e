/- What the verifier tells of programs, run in the kernel (5). -/
import Derived.Test.YtfblhdiihlkmjaaGreatDoorData
namespace Go.Proofs.YtfblhdiihlkmjaaGreatDoor
open Go Go.Ev
theorem vI6x28_ok (t : TypeId) : memoOk (En []) tab t 100000 14 (vmI 31 (flawN 28 prI6) 30 9) = true := by kernel_rfl
theorem vI7_ok (t : TypeId) : memoOk (En []) tab t 100000 14 (vmI 22 prI7 0 0) = true := by kernel_rfl
theorem vI7x1_ok (t : TypeId) : memoOk (En []) tab t 100000 14 (vmI 22 (flawN 1 prI7) 4 9) = true := by kernel_rfl
theorem vI7x8_ok (t : TypeId) : memoOk (En []) tab t 100000 14 (vmI 22 (flawN 8 prI7) 15 9) = true := by kernel_rfl
theorem vI7x15_ok (t : TypeId) : memoOk (En []) tab t 100000 14 (vmI 22 (flawN 15 prI7) 16 9) = true := by kernel_rfl
theorem vI7x16_ok (t : TypeId) : memoOk (En []) tab t 100000 14 (vmI 22 (flawN 16 prI7) 18 9) = true := by kernel_rfl
theorem vI7x19_ok (t : TypeId) : memoOk (En []) tab t 100000 14 (vmI 22 (flawN 19 prI7) 21 9) = true := by kernel_rfl
theorem vS0_ok (t : TypeId) : memoOk (En []) tab t 100000 14 (vmS 3 prS0 0 0) = true := by kernel_rfl
theorem vS1_ok (t : TypeId) : memoOk (En []) tab t 100000 14 (vmS 3 prS1 0 0) = true := by kernel_rfl
theorem vS2_ok (t : TypeId) : memoOk (En []) tab t 100000 14 (vmS 32 prS2 0 0) = true := by kernel_rfl
end Go.Proofs.YtfblhdiihlkmjaaGreatDoor
