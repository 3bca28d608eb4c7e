/- The program's surroundings: closed facts. -/
import Derived.Test.YtfblhdiihlkmjaaGreatDoorEvG
import Derived.Test.YtfblhdiihlkmjaaGreatDoorRows
namespace Go.Proofs.YtfblhdiihlkmjaaGreatDoor
open Go Go.Ev
theorem add_is : ∃ fn, Tryz.prog.funcs[191]? = some fn ∧ fn.body.isNone = true ∧ Extern.findNext fn = none ∧ Extern.find fn = some add64Entry :=
  ⟨Tryz.f191, Tryz.func191, by kernel_rfl, by kernel_rfl, by kernel_rfl⟩
theorem names_ok : (Tryz.prog.funcs.toList.all fun fn => boolNot (fn.name == "runtime.NumGoroutine")) = true := by kernel_rfl
theorem prog_ok : ProgOk Tryz.prog 191 := ⟨by kernel_rfl, names_ok, add_is⟩
/-- math/bits.deBruijn64tab -/
noncomputable def tab : List LV := [0, 1, 56, 2, 57, 49, 28, 3, 61, 58, 42, 50, 38, 29, 17, 4, 62, 47, 59, 36, 45, 43, 51, 22, 53, 39, 33, 30, 24, 18, 12, 5, 63, 55, 48, 27, 60, 41, 37, 16, 46, 35, 44, 21, 52, 32, 23, 11, 54, 26, 40, 15, 34, 20, 31, 10, 25, 14, 19, 9, 13, 8, 7, 6].map fun n => .int .u8 (.ofNat n)
noncomputable abbrev En (l : List (FuncId × List Memo)) : Ev.Env := env Tryz.prog 191 tab l
theorem en0 : EnvOk (En []) := env_ok0 prog_ok
end Go.Proofs.YtfblhdiihlkmjaaGreatDoor
