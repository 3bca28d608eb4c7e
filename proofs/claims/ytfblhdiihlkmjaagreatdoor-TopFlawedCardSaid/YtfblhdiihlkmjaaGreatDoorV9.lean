/- What the verifier tells of programs, run in the kernel (9). -/
import Derived.Test.YtfblhdiihlkmjaaGreatDoorData
namespace Go.Proofs.YtfblhdiihlkmjaaGreatDoor
open Go Go.Ev
theorem vS6x30_ok (t : TypeId) : memoOk (En []) tab t 100000 14 (vmS 33 (flawN 30 prS6) 32 9) = true := by kernel_rfl
theorem vS7_ok (t : TypeId) : memoOk (En []) tab t 100000 14 (vmS 22 prS7 0 0) = true := by kernel_rfl
theorem vS7x1_ok (t : TypeId) : memoOk (En []) tab t 100000 14 (vmS 22 (flawN 1 prS7) 4 9) = true := by kernel_rfl
theorem vS7x8_ok (t : TypeId) : memoOk (En []) tab t 100000 14 (vmS 22 (flawN 8 prS7) 15 9) = true := by kernel_rfl
theorem vS7x15_ok (t : TypeId) : memoOk (En []) tab t 100000 14 (vmS 22 (flawN 15 prS7) 16 9) = true := by kernel_rfl
theorem vS7x16_ok (t : TypeId) : memoOk (En []) tab t 100000 14 (vmS 22 (flawN 16 prS7) 18 9) = true := by kernel_rfl
theorem vS7x19_ok (t : TypeId) : memoOk (En []) tab t 100000 14 (vmS 22 (flawN 19 prS7) 21 9) = true := by kernel_rfl
end Go.Proofs.YtfblhdiihlkmjaaGreatDoor
