/- What the verifier tells of programs, run in the kernel (4). -/
import Derived.Test.YtfblhdiihlkmjaaGreatDoorData
namespace Go.Proofs.YtfblhdiihlkmjaaGreatDoor
open Go Go.Ev
theorem vI5x8_ok (t : TypeId) : memoOk (En []) tab t 100000 14 (vmI 28 (flawN 8 prI5) 11 9) = true := by kernel_rfl
theorem vI5x19_ok (t : TypeId) : memoOk (En []) tab t 100000 14 (vmI 28 (flawN 19 prI5) 20 8) = true := by kernel_rfl
theorem vI5x21_ok (t : TypeId) : memoOk (En []) tab t 100000 14 (vmI 28 (flawN 21 prI5) 22 9) = true := by kernel_rfl
theorem vI5x22_ok (t : TypeId) : memoOk (En []) tab t 100000 14 (vmI 28 (flawN 22 prI5) 24 9) = true := by kernel_rfl
theorem vI5x25_ok (t : TypeId) : memoOk (En []) tab t 100000 14 (vmI 28 (flawN 25 prI5) 27 9) = true := by kernel_rfl
theorem vI6_ok (t : TypeId) : memoOk (En []) tab t 100000 14 (vmI 31 prI6 0 0) = true := by kernel_rfl
theorem vI6x1_ok (t : TypeId) : memoOk (En []) tab t 100000 14 (vmI 31 (flawN 1 prI6) 4 9) = true := by kernel_rfl
theorem vI6x8_ok (t : TypeId) : memoOk (En []) tab t 100000 14 (vmI 31 (flawN 8 prI6) 12 9) = true := by kernel_rfl
theorem vI6x24_ok (t : TypeId) : memoOk (En []) tab t 100000 14 (vmI 31 (flawN 24 prI6) 25 9) = true := by kernel_rfl
theorem vI6x25_ok (t : TypeId) : memoOk (En []) tab t 100000 14 (vmI 31 (flawN 25 prI6) 27 9) = true := by kernel_rfl
end Go.Proofs.YtfblhdiihlkmjaaGreatDoor
