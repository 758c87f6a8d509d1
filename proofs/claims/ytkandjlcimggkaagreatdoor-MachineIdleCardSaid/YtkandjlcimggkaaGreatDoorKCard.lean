/-
It is proved that the law MachineIdle answers true for every list of numbers that it is given, and leaves that list as it was: the card of MachineIdle, tied to the program's text.
Conditions: none beyond those of the given card (the listed package-level variables lie as the program's text lays them; the card ties this).
-/
import Derived.Test.YtkandjlcimggkaaGreatDoorKHolds
namespace Go.Proofs.YtkandjlcimggkaaGreatDoor
theorem machineIdle_card_holds : Rows.MachineIdleCardSaid :=
  Claim7.holds_tied_plain_at .later [] [.data, .data, .data, .data, .sentinel, .sentinel, .pinned] true (true, "17cda21ba21a0f1145a29dc00e38340cd714abe5d941b72366bbeeb599b19f12") true
    machineIdle.holds (fun _ h => by cases h) (by as_aux_lemma => kernel_rfl) (fun _ h => by cases h) machineIdle_row_tie rfl ⟨rfl, rfl⟩ (by as_aux_lemma => kernel_rfl) rfl
    (fun f fn hf hfn => by
      obtain rfl : f = 3 := Option.some.inj ((show Tryz.prog.funcNamed "airshare/airsharelaw29.MachineIdle" = some 3 by as_aux_lemma => kernel_rfl).symm.trans hf) |>.symm
      obtain rfl : fn = Tryz.f3 := (Option.some.inj (Tryz.func3.symm.trans hfn)).symm
      exact ⟨by as_aux_lemma => kernel_rfl, fun j t ht => by
        rw [Tryz.params3] at ht
        have hm : t ∈ [22] := by simpa using Array.mem_of_getElem? ht
        have hall : ([22].all fun u => !Tryz.prog.wantsStandIn u) = true := by as_aux_lemma => kernel_rfl
        exact (show Tryz.prog.wantsStandIn t = false by simpa using List.all_eq_true.1 hall t hm)⟩)
    (by as_aux_lemma => kernel_rfl)
#print axioms machineIdle_card_holds
end Go.Proofs.YtkandjlcimggkaaGreatDoor
