import Derived.Test.YtkandjlcimggkaaGreatDoorKS
namespace Go.Proofs.YtkandjlcimggkaaGreatDoor
open Go.Am
set_option maxRecDepth 100000
theorem rd_2_3_0 (x : Nat → Value) (r : Int) (b : Nat → Bool) : seeN [3, 6, 9] ns_2_4 (codeN P0 extI callI ids 1000 bodyC (actOf 91 [(3, ptr 1), (6, ptr 41), (9, .int .i64 (.ofNat 3))] x) (memOf ns_2_3 (os_2_3 r b) next_2_3) [(2, 0)]) =
    some ⟨.normal, 91, [ptr 1, ptr 41, .int .i64 (.ofNat 4)], next_2_4, (os_2_4 r (upd b 3 true)).map some, []⟩ := by kernel_rfl
theorem rd_2_3_1 (x : Nat → Value) (r : Int) (b : Nat → Bool) : seeN [3, 6, 9] ns_2_4 (codeN P0 extI callI ids 1000 bodyC (actOf 91 [(3, ptr 1), (6, ptr 41), (9, .int .i64 (.ofNat 3))] x) (memOf ns_2_3 (os_2_3 r b) next_2_3) [(2, 1)]) =
    some ⟨.normal, 91, [ptr 1, ptr 41, .int .i64 (.ofNat 4)], next_2_4, (os_2_4 (addF .i64 r (.ofNat 1)) (upd b 3 false)).map some, []⟩ := by kernel_rfl
theorem rd_2_4_0 (x : Nat → Value) (r : Int) (b : Nat → Bool) : seeN [3, 6, 9] ns_2_5 (codeN P0 extI callI ids 1000 bodyC (actOf 91 [(3, ptr 1), (6, ptr 41), (9, .int .i64 (.ofNat 4))] x) (memOf ns_2_4 (os_2_4 r b) next_2_4) [(2, 0)]) =
    some ⟨.normal, 91, [ptr 1, ptr 41, .int .i64 (.ofNat 5)], next_2_5, (os_2_5 r (upd b 4 true)).map some, []⟩ := by kernel_rfl
theorem rd_2_4_1 (x : Nat → Value) (r : Int) (b : Nat → Bool) : seeN [3, 6, 9] ns_2_5 (codeN P0 extI callI ids 1000 bodyC (actOf 91 [(3, ptr 1), (6, ptr 41), (9, .int .i64 (.ofNat 4))] x) (memOf ns_2_4 (os_2_4 r b) next_2_4) [(2, 1)]) =
    some ⟨.normal, 91, [ptr 1, ptr 41, .int .i64 (.ofNat 5)], next_2_5, (os_2_5 (addF .i64 r (.ofNat 1)) (upd b 4 false)).map some, []⟩ := by kernel_rfl
theorem rd_2_5_0 (x : Nat → Value) (r : Int) (b : Nat → Bool) : seeN [3, 6, 9] ns_2_6 (codeN P0 extI callI ids 1000 bodyC (actOf 91 [(3, ptr 1), (6, ptr 41), (9, .int .i64 (.ofNat 5))] x) (memOf ns_2_5 (os_2_5 r b) next_2_5) [(2, 0)]) =
    some ⟨.normal, 91, [ptr 1, ptr 41, .int .i64 (.ofNat 6)], next_2_6, (os_2_6 r (upd b 5 true)).map some, []⟩ := by kernel_rfl
theorem rd_2_5_1 (x : Nat → Value) (r : Int) (b : Nat → Bool) : seeN [3, 6, 9] ns_2_6 (codeN P0 extI callI ids 1000 bodyC (actOf 91 [(3, ptr 1), (6, ptr 41), (9, .int .i64 (.ofNat 5))] x) (memOf ns_2_5 (os_2_5 r b) next_2_5) [(2, 1)]) =
    some ⟨.normal, 91, [ptr 1, ptr 41, .int .i64 (.ofNat 6)], next_2_6, (os_2_6 (addF .i64 r (.ofNat 1)) (upd b 5 false)).map some, []⟩ := by kernel_rfl
end Go.Proofs.YtkandjlcimggkaaGreatDoor
