/- What the verifier tells of programs, run in the kernel (7). -/
import Derived.Test.YtfblhdiihlkmjaaGreatDoorData
namespace Go.Proofs.YtfblhdiihlkmjaaGreatDoor
open Go Go.Ev
theorem vS4x7_ok (t : TypeId) : memoOk (En []) tab t 100000 14 (vmS 31 (flawN 7 prS4) 10 9) = true := by kernel_rfl
theorem vS4x14_ok (t : TypeId) : memoOk (En []) tab t 100000 14 (vmS 31 (flawN 14 prS4) 17 9) = true := by kernel_rfl
theorem vS4x17_ok (t : TypeId) : memoOk (En []) tab t 100000 14 (vmS 31 (flawN 17 prS4) 23 8) = true := by kernel_rfl
theorem vS4x20_ok (t : TypeId) : memoOk (En []) tab t 100000 14 (vmS 31 (flawN 20 prS4) 21 9) = true := by kernel_rfl
theorem vS4x21_ok (t : TypeId) : memoOk (En []) tab t 100000 14 (vmS 31 (flawN 21 prS4) 23 9) = true := by kernel_rfl
theorem vS4x25_ok (t : TypeId) : memoOk (En []) tab t 100000 14 (vmS 31 (flawN 25 prS4) 28 8) = true := by kernel_rfl
theorem vS4x26_ok (t : TypeId) : memoOk (En []) tab t 100000 14 (vmS 31 (flawN 26 prS4) 28 9) = true := by kernel_rfl
theorem vS5_ok (t : TypeId) : memoOk (En []) tab t 100000 14 (vmS 25 prS5 0 0) = true := by kernel_rfl
theorem vS5x1_ok (t : TypeId) : memoOk (En []) tab t 100000 14 (vmS 25 (flawN 1 prS5) 4 9) = true := by kernel_rfl
theorem vS5x8_ok (t : TypeId) : memoOk (En []) tab t 100000 14 (vmS 25 (flawN 8 prS5) 11 9) = true := by kernel_rfl
end Go.Proofs.YtfblhdiihlkmjaaGreatDoor
