/- What the verifier tells of programs, run in the kernel (8). -/
import Derived.Test.YtfblhdiihlkmjaaGreatDoorData
namespace Go.Proofs.YtfblhdiihlkmjaaGreatDoor
open Go Go.Ev
theorem vS5x16_ok (t : TypeId) : memoOk (En []) tab t 100000 14 (vmS 25 (flawN 16 prS5) 17 8) = true := by kernel_rfl
theorem vS5x18_ok (t : TypeId) : memoOk (En []) tab t 100000 14 (vmS 25 (flawN 18 prS5) 19 9) = true := by kernel_rfl
theorem vS5x19_ok (t : TypeId) : memoOk (En []) tab t 100000 14 (vmS 25 (flawN 19 prS5) 21 9) = true := by kernel_rfl
theorem vS5x22_ok (t : TypeId) : memoOk (En []) tab t 100000 14 (vmS 25 (flawN 22 prS5) 24 9) = true := by kernel_rfl
theorem vS6_ok (t : TypeId) : memoOk (En []) tab t 100000 14 (vmS 33 prS6 0 0) = true := by kernel_rfl
theorem vS6x1_ok (t : TypeId) : memoOk (En []) tab t 100000 14 (vmS 33 (flawN 1 prS6) 4 9) = true := by kernel_rfl
theorem vS6x8_ok (t : TypeId) : memoOk (En []) tab t 100000 14 (vmS 33 (flawN 8 prS6) 11 9) = true := by kernel_rfl
theorem vS6x24_ok (t : TypeId) : memoOk (En []) tab t 100000 14 (vmS 33 (flawN 24 prS6) 25 8) = true := by kernel_rfl
theorem vS6x26_ok (t : TypeId) : memoOk (En []) tab t 100000 14 (vmS 33 (flawN 26 prS6) 27 9) = true := by kernel_rfl
theorem vS6x27_ok (t : TypeId) : memoOk (En []) tab t 100000 14 (vmS 33 (flawN 27 prS6) 29 9) = true := by kernel_rfl
end Go.Proofs.YtfblhdiihlkmjaaGreatDoor
