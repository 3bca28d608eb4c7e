/- lives(), run once in the kernel. -/
import Derived.Test.YtfblhdiihlkmjaaGreatDoorEnv
namespace Go.Proofs.YtfblhdiihlkmjaaGreatDoor
open Go Go.Ev
noncomputable def mLives : Memo := ⟨[], [], .bool true, [], true⟩
theorem lives_ok (t : TypeId) : memoOk (En []) tab t 100000 13 mLives = true := by kernel_rfl
end Go.Proofs.YtfblhdiihlkmjaaGreatDoor
