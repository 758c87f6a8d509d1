import Derived.Test.YtkandjlcimggkaaGreatDoorKS
namespace Go.Proofs.YtkandjlcimggkaaGreatDoor
open Go.Am
noncomputable def vsI (j : Nat) : List Value := [ptr 1, ptr 41, .int .i64 (.ofNat j)]
noncomputable def liveI (j : Nat) : List (Nat × Value) := [(3, ptr 1), (6, ptr 41), (9, .int .i64 (.ofNat j))]
theorem liveI_zip (j : Nat) : liveI j = [3, 6, 9].zip (vsI j) := rfl
end Go.Proofs.YtkandjlcimggkaaGreatDoor
