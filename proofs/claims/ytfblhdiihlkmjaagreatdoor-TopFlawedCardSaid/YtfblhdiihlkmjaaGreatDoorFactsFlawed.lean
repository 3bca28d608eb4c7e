/- TopFlawed: closed facts of its row, each by the kernel. -/
import Derived.Test.YtfblhdiihlkmjaaGreatDoorCards
import Derived.JoinedOf
import Derived.SevenTiedAt
import Derived.KernelRfl
namespace Go.Proofs.YtfblhdiihlkmjaaGreatDoor
open Go
set_option maxHeartbeats 100000000 in
theorem topFlawed_facts : joinedFacts Tryz.pinned.checked.prog 4 Tryz.f4 Rows.topFlawedSpec Rows.topFlawedRow = true := by
  unfold joinedFacts
  simp only [Bool.and_eq_true]
  repeat' refine And.intro ?_ ?_
  all_goals as_aux_lemma => kernel_rfl
theorem topFlawed_goes : false = Rows.topFlawedRow.goesBy Tryz.pinned.checked.prog := by kernel_rfl
end Go.Proofs.YtfblhdiihlkmjaaGreatDoor
