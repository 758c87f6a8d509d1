import Derived.Test.YtkandjlcimggkaaGreatDoorKRow
import Derived.Test.YtkandjlcimggkaaGreatDoorKFct
namespace Go.Proofs.YtkandjlcimggkaaGreatDoor.machineIdle
theorem named3 : Tryz.prog.funcNamed "airshare/airsharelaw29.MachineIdle" = some 3 := by kernel_rfl
theorem inst3 : Tryz.f3.isInstance Tryz.prog Rows.machineIdleRow.origin Rows.machineIdleRow.targs := of_decide_eq_true (by kernel_rfl)
theorem wrap3 : Tryz.f3.isWrapper Tryz.prog Rows.machineIdleRow.wrapper Rows.machineIdleRow.mainSum := by
  unfold Func.isWrapper
  rw [if_neg (of_decide_eq_false (by kernel_rfl))]
  exact ⟨rfl, rfl⟩
theorem holds : Rows.MachineIdleSaid :=
  OpenClaim.holds_of_wide 3 Tryz.f3 rfl rfl rfl rfl rfl rfl rfl ⟨rfl, rfl, rfl, rfl, rfl⟩ rfl rfl rfl rfl rfl named3 Tryz.func3 closed3 inst3 wrap3
    (fun os started H enc _ => lifted os started H enc)
end Go.Proofs.YtkandjlcimggkaaGreatDoor.machineIdle
