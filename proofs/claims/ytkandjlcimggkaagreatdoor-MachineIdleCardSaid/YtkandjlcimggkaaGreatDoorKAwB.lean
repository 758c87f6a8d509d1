import Derived.Test.YtkandjlcimggkaaGreatDoorKAwS
namespace Go.Proofs.YtkandjlcimggkaaGreatDoor
open Go.Am
set_option maxRecDepth 100000
theorem aw_c (x : Nat → Value) : seeC [0] [] (codeC P0 extI callA 1000 (restC 5 body11) (actOf 61 ([3].zip vs_aw2) x) (memOf ns_aw2 os_aw2 next_aw2)) =
    some ⟨.ret, 61, [.bool true], 3894, []⟩ := by kernel_rfl
end Go.Proofs.YtkandjlcimggkaaGreatDoor
