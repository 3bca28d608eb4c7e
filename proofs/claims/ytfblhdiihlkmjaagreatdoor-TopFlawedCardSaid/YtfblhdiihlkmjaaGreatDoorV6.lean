/- What the verifier tells of programs, run in the kernel (6). -/
import Derived.Test.YtfblhdiihlkmjaaGreatDoorData
namespace Go.Proofs.YtfblhdiihlkmjaaGreatDoor
open Go Go.Ev
theorem vS2x7_ok (t : TypeId) : memoOk (En []) tab t 100000 14 (vmS 32 (flawN 7 prS2) 10 9) = true := by kernel_rfl
theorem vS2x21_ok (t : TypeId) : memoOk (En []) tab t 100000 14 (vmS 32 (flawN 21 prS2) 22 8) = true := by kernel_rfl
theorem vS2x22_ok (t : TypeId) : memoOk (En []) tab t 100000 14 (vmS 32 (flawN 22 prS2) 24 9) = true := by kernel_rfl
theorem vS2x26_ok (t : TypeId) : memoOk (En []) tab t 100000 14 (vmS 32 (flawN 26 prS2) 29 8) = true := by kernel_rfl
theorem vS2x27_ok (t : TypeId) : memoOk (En []) tab t 100000 14 (vmS 32 (flawN 27 prS2) 29 9) = true := by kernel_rfl
theorem vS3_ok (t : TypeId) : memoOk (En []) tab t 100000 14 (vmS 19 prS3 0 0) = true := by kernel_rfl
theorem vS3x1_ok (t : TypeId) : memoOk (En []) tab t 100000 14 (vmS 19 (flawN 1 prS3) 4 9) = true := by kernel_rfl
theorem vS3x13_ok (t : TypeId) : memoOk (En []) tab t 100000 14 (vmS 19 (flawN 13 prS3) 15 9) = true := by kernel_rfl
theorem vS3x16_ok (t : TypeId) : memoOk (En []) tab t 100000 14 (vmS 19 (flawN 16 prS3) 18 9) = true := by kernel_rfl
theorem vS4_ok (t : TypeId) : memoOk (En []) tab t 100000 14 (vmS 31 prS4 0 0) = true := by kernel_rfl
end Go.Proofs.YtfblhdiihlkmjaaGreatDoor
