import Derived.Test.YtkandjlcimggkaaGreatDoorKDefs
import Derived.Test.YtkandjlcimggkaaGreatDoorAm6
namespace Go.Proofs.YtkandjlcimggkaaGreatDoor
open Go.Am
set_option maxRecDepth 100000

def noCountB (P : Program) : Bool := P.funcs.toList.all fun fn => !(fn.name == "runtime.NumGoroutine")
theorem noCountB_ok : noCountB P0 = true := by kernel_rfl
theorem noCount : NoCount P0 := by
  intro f fn h
  have := noCountB_ok
  unfold noCountB at this
  rw [List.all_eq_true] at this
  have hm : fn ∈ P0.funcs.toList := Array.mem_toList_iff.2 (Array.mem_of_getElem? h)
  simpa using this fn hm

def zerosB (P : Program) : Bool := P.types.toList.all fun i => match i.zero with
  | some z => z.cells.toList.all (addrFree 50)
  | none => true
theorem zerosB_ok : zerosB P0 = true := by kernel_rfl
theorem follows : P0.follows .mixedOrders = true := by kernel_rfl
theorem findClone : Extern.find Tryz.f379 = some Extern.MapsClone.clone := by kernel_rfl
theorem findIndex : Extern.find Tryz.f291 = some Extern.BytealgIndexByte.indexByte := by kernel_rfl
theorem findCount : Extern.find Tryz.f249 = some Extern.BytealgCount.count := by kernel_rfl
theorem nextClone : (Extern.findNext Tryz.f379).isNone = true := by kernel_rfl
theorem nextIndex : (Extern.findNext Tryz.f291).isNone = true := by kernel_rfl
theorem nextCount : (Extern.findNext Tryz.f249).isNone = true := by kernel_rfl
end Go.Proofs.YtkandjlcimggkaaGreatDoor
namespace Go.Proofs.YtkandjlcimggkaaGreatDoor
open Go.Am
theorem zeros : zerosFree P0 := by
  refine zerosFree_of fun t i z hi hz => ?_
  have := zerosB_ok
  unfold zerosB at this
  rw [List.all_eq_true] at this
  have h := this i (Array.mem_toList_iff.2 (Array.mem_of_getElem? hi))
  rw [hz] at h
  intro v hv
  exact List.all_eq_true.1 h v hv
theorem fine : Fine P0 := ⟨zeros, noCount⟩
end Go.Proofs.YtkandjlcimggkaaGreatDoor
