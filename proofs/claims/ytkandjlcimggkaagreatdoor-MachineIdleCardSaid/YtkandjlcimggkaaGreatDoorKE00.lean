import Derived.Test.YtkandjlcimggkaaGreatDoorKS
namespace Go.Proofs.YtkandjlcimggkaaGreatDoor
open Go.Am
set_option maxRecDepth 100000
theorem en_0_1 (x : Nat → Value) (r : Int) (b : Nat → Bool) : seeN [2] [] (codeN P0 extI callI ids 1000 endC (actOf 91 [(3, ptr 1), (6, ptr 41), (9, .int .i64 (.ofNat 1))] x) (memOf ns_0_1 (os_0_1 r b) next_0_1) []) =
    some ⟨.ret, 91, [.bool true], 3894, [], []⟩ := by kernel_rfl
theorem en_0_2 (x : Nat → Value) (r : Int) (b : Nat → Bool) : seeN [2] [] (codeN P0 extI callI ids 1000 endC (actOf 91 [(3, ptr 1), (6, ptr 41), (9, .int .i64 (.ofNat 2))] x) (memOf ns_0_2 (os_0_2 r b) next_0_2) []) =
    some ⟨.ret, 91, [.bool true], 3894, [], []⟩ := by kernel_rfl
theorem en_0_3 (x : Nat → Value) (r : Int) (b : Nat → Bool) : seeN [2] [] (codeN P0 extI callI ids 1000 endC (actOf 91 [(3, ptr 1), (6, ptr 41), (9, .int .i64 (.ofNat 3))] x) (memOf ns_0_3 (os_0_3 r b) next_0_3) []) =
    some ⟨.ret, 91, [.bool true], 3894, [], []⟩ := by kernel_rfl
end Go.Proofs.YtkandjlcimggkaaGreatDoor
