import Derived.Test.YtkandjlcimggkaaGreatDoorKS
namespace Go.Proofs.YtkandjlcimggkaaGreatDoor
open Go.Am
set_option maxRecDepth 100000
theorem pre_2 (x : Nat → Value) (b : Nat → Bool) : seeN [3, 6] ns_2_0 (codeN P0 extI callI ids 1000 preC (actOf 91 [(3, ptr 1)] x) ⟨.e, 2⟩ [(3, 2)]) =
    some ⟨.normal, 91, [ptr 1, ptr 41], next_2_0, (os_2_0 (.ofNat 0) b).map some, []⟩ := by kernel_rfl
end Go.Proofs.YtkandjlcimggkaaGreatDoor
