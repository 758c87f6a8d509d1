import Derived.Test.YtkandjlcimggkaaGreatDoorKAwS
namespace Go.Proofs.YtkandjlcimggkaaGreatDoor
open Go.Am
set_option maxRecDepth 100000
theorem aw_a : seeC [2, 3] ns_aw1 (codeC P0 extI callA 1000 (seqOf (nthC 0 body11) [nthC 1 body11, nthC 2 body11, nthC 3 body11]) ⟨.e, 61⟩ ⟨.e, 3600⟩) =
    some ⟨.normal, 61, vs_aw1, next_aw1, os_aw1.map some⟩ := by kernel_rfl
theorem aw_b (x : Nat → Value) : seeC [3] ns_aw2 (codeC P0 extI callA 1000 (nthC 4 body11) (actOf 61 ([2, 3].zip vs_aw1) x) (memOf ns_aw1 os_aw1 next_aw1)) =
    some ⟨.normal, 61, vs_aw2, next_aw2, os_aw2.map some⟩ := by kernel_rfl
end Go.Proofs.YtkandjlcimggkaaGreatDoor
