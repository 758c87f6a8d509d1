import Derived.Test.YtkandjlcimggkaaGreatDoorRows
import Derived.JoinedOf
import Derived.WalkKit
namespace Go.Proofs.YtkandjlcimggkaaGreatDoor
set_option maxHeartbeats 4000000 in
theorem closed3 : joinedFacts Tryz.prog 3 Tryz.f3 Rows.machineIdleSpec Rows.machineIdleRow = true := by
  unfold joinedFacts
  repeat' with_reducible refine Bool.and_eq_true_iff.2 ⟨?_, ?_⟩
  all_goals as_aux_lemma => kernel_rfl
end Go.Proofs.YtkandjlcimggkaaGreatDoor
