/-
  DERIVED. GIVEN WITH THE SEED: THE CARDS: each row of YtkandjlcimggkaaGreatDoorRows.lean that lists a variable, with what it lists TIED to the program's text (the seventh form; the later family's looks); each row that meets fmt, with fmt's text TOLD by the authors' own Lean function (tested against real Go, not proved from fmt's source: count such statements apart). THE CARD IS WHAT COUNTS. Prove the row's statement (the work); the ties are given (YtkandjlcimggkaaGreatDoorTie.lean); close each card by the builder's one call (the guide's Derived/Test/ToyasCard.lean, 'card_holds'). Laid BY PROGRAM, IN A SANDBOX (cutbox-door.mjs). By AI agents, Wed Nov 11 2026. No macro, syntax, notation, axiom, sorry.
-/
import Derived.Test.YtkandjlcimggkaaGreatDoorRows
import GoSem.ClaimSeven
namespace Go.Proofs.YtkandjlcimggkaaGreatDoor
namespace Rows

/-- THE TIED CARD OF 'airsharelaw29.MachineIdle'. -/
def machineIdleCard : Claim7 := { stood := { row := machineIdleRow, standIns := [], harness := (true, "17cda21ba21a0f1145a29dc00e38340cd714abe5d941b72366bbeeb599b19f12"), looks := true }, kinds := [], alts := [], laidByText := true, laidKinds := [.data, .data, .data, .data, .sentinel, .sentinel, .pinned], laidTests := true, laidLooks := .later }
def MachineIdleCardSaid : Prop := Claim7.holds Tryz.pinned (.plain (OpenSpec.ofChange machineIdleSpec)) machineIdleCard

/-- THE SECOND FORM's CARD OF 'airsharelaw29.MachineIdle'. -/
def machineIdleUptoCard : Claim7 := { stood := { row := machineIdleUptoRow, standIns := [], harness := (true, "17cda21ba21a0f1145a29dc00e38340cd714abe5d941b72366bbeeb599b19f12"), looks := true }, kinds := [], alts := [], laidByText := true, laidKinds := [.data, .data, .data, .data, .sentinel, .sentinel, .pinned], laidTests := true, laidLooks := .later }
def MachineIdleUptoCardSaid : Prop := Claim7.holds Tryz.pinned (.plain (OpenSpec.upto machineIdleSpec)) machineIdleUptoCard
end Rows
end Go.Proofs.YtkandjlcimggkaaGreatDoor
