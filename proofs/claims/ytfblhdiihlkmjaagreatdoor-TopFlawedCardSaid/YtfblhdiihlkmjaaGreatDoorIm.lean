/- The images, and what is told of their types. -/
import Derived.Test.YtfblhdiihlkmjaaGreatDoorData
namespace Go.Proofs.YtfblhdiihlkmjaaGreatDoor
open Go Go.Ev
theorem imI_ok (t : TypeId) : memoOk (En []) tab t 100000 6 imI = true := by kernel_rfl
theorem ckI_ok (t : TypeId) : memoOk (En []) tab t 100000 73 ckI = true := by kernel_rfl
theorem imS_ok (t : TypeId) : memoOk (En []) tab t 100000 8 imS = true := by kernel_rfl
theorem ckS_ok (t : TypeId) : memoOk (En []) tab t 100000 73 ckS = true := by kernel_rfl
end Go.Proofs.YtfblhdiihlkmjaaGreatDoor
