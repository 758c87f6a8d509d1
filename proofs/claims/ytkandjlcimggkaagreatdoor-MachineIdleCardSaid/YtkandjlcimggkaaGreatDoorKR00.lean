import Derived.Test.YtkandjlcimggkaaGreatDoorKS
namespace Go.Proofs.YtkandjlcimggkaaGreatDoor
open Go.Am
set_option maxRecDepth 100000
theorem rd_0_0_0 (x : Nat → Value) (r : Int) (b : Nat → Bool) : seeN [3, 6, 9] ns_0_1 (codeN P0 extI callI ids 1000 bodyC (actOf 91 [(3, ptr 1), (6, ptr 41), (9, .int .i64 (.ofNat 0))] x) (memOf ns_0_0 (os_0_0 r b) next_0_0) [(2, 0)]) =
    some ⟨.normal, 91, [ptr 1, ptr 41, .int .i64 (.ofNat 1)], next_0_1, (os_0_1 r (upd b 0 true)).map some, []⟩ := by kernel_rfl
theorem rd_0_0_1 (x : Nat → Value) (r : Int) (b : Nat → Bool) : seeN [3, 6, 9] ns_0_1 (codeN P0 extI callI ids 1000 bodyC (actOf 91 [(3, ptr 1), (6, ptr 41), (9, .int .i64 (.ofNat 0))] x) (memOf ns_0_0 (os_0_0 r b) next_0_0) [(2, 1)]) =
    some ⟨.normal, 91, [ptr 1, ptr 41, .int .i64 (.ofNat 1)], next_0_1, (os_0_1 (addF .i64 r (.ofNat 1)) (upd b 0 false)).map some, []⟩ := by kernel_rfl
theorem rd_0_1_0 (x : Nat → Value) (r : Int) (b : Nat → Bool) : seeN [3, 6, 9] ns_0_2 (codeN P0 extI callI ids 1000 bodyC (actOf 91 [(3, ptr 1), (6, ptr 41), (9, .int .i64 (.ofNat 1))] x) (memOf ns_0_1 (os_0_1 r b) next_0_1) [(2, 0)]) =
    some ⟨.normal, 91, [ptr 1, ptr 41, .int .i64 (.ofNat 2)], next_0_2, (os_0_2 r (upd b 1 true)).map some, []⟩ := by kernel_rfl
theorem rd_0_1_1 (x : Nat → Value) (r : Int) (b : Nat → Bool) : seeN [3, 6, 9] ns_0_2 (codeN P0 extI callI ids 1000 bodyC (actOf 91 [(3, ptr 1), (6, ptr 41), (9, .int .i64 (.ofNat 1))] x) (memOf ns_0_1 (os_0_1 r b) next_0_1) [(2, 1)]) =
    some ⟨.normal, 91, [ptr 1, ptr 41, .int .i64 (.ofNat 2)], next_0_2, (os_0_2 (addF .i64 r (.ofNat 1)) (upd b 1 false)).map some, []⟩ := by kernel_rfl
theorem rd_0_2_0 (x : Nat → Value) (r : Int) (b : Nat → Bool) : seeN [3, 6, 9] ns_0_3 (codeN P0 extI callI ids 1000 bodyC (actOf 91 [(3, ptr 1), (6, ptr 41), (9, .int .i64 (.ofNat 2))] x) (memOf ns_0_2 (os_0_2 r b) next_0_2) [(2, 0)]) =
    some ⟨.normal, 91, [ptr 1, ptr 41, .int .i64 (.ofNat 3)], next_0_3, (os_0_3 r (upd b 2 true)).map some, []⟩ := by kernel_rfl
theorem rd_0_2_1 (x : Nat → Value) (r : Int) (b : Nat → Bool) : seeN [3, 6, 9] ns_0_3 (codeN P0 extI callI ids 1000 bodyC (actOf 91 [(3, ptr 1), (6, ptr 41), (9, .int .i64 (.ofNat 2))] x) (memOf ns_0_2 (os_0_2 r b) next_0_2) [(2, 1)]) =
    some ⟨.normal, 91, [ptr 1, ptr 41, .int .i64 (.ofNat 3)], next_0_3, (os_0_3 (addF .i64 r (.ofNat 1)) (upd b 2 false)).map some, []⟩ := by kernel_rfl
end Go.Proofs.YtkandjlcimggkaaGreatDoor
