import Derived.Test.YtkandjlcimggkaaGreatDoorKS
namespace Go.Proofs.YtkandjlcimggkaaGreatDoor
open Go.Am
set_option maxRecDepth 100000
theorem en_2_4 (x : Nat → Value) (r : Int) (b : Nat → Bool) : seeN [2] [] (codeN P0 extI callI ids 1000 endC (actOf 91 [(3, ptr 1), (6, ptr 41), (9, .int .i64 (.ofNat 4))] x) (memOf ns_2_4 (os_2_4 r b) next_2_4) []) =
    some ⟨.ret, 91, [.bool true], 3894, [], []⟩ := by kernel_rfl
theorem en_2_5 (x : Nat → Value) (r : Int) (b : Nat → Bool) : seeN [2] [] (codeN P0 extI callI ids 1000 endC (actOf 91 [(3, ptr 1), (6, ptr 41), (9, .int .i64 (.ofNat 5))] x) (memOf ns_2_5 (os_2_5 r b) next_2_5) []) =
    some ⟨.ret, 91, [.bool true], 3894, [], []⟩ := by kernel_rfl
theorem en_2_6 (x : Nat → Value) (r : Int) (b : Nat → Bool) : seeN [2] [] (codeN P0 extI callI ids 1000 endC (actOf 91 [(3, ptr 1), (6, ptr 41), (9, .int .i64 (.ofNat 6))] x) (memOf ns_2_6 (os_2_6 r b) next_2_6) []) =
    some ⟨.ret, 91, [.bool true], 3894, [], []⟩ := by kernel_rfl
end Go.Proofs.YtkandjlcimggkaaGreatDoor
