import Derived.Test.YtkandjlcimggkaaGreatDoorAm4
import Derived.KernelRfl
import Derived.Test.YtkandjlcimggkaaGreatDoorProg
namespace Go.Proofs.YtkandjlcimggkaaGreatDoor
open Go.Am

/-- 'slices.Sorted' of the keys of a map with at most one entry -/
noncomputable def sortedK : CallC := fun _ args s =>
  match args.toList with
  | [.func (.func f) fst capt] => match fst.toList, capt.toList with
    | [], [.pointer (some a)] => if (f = 386 ∨ f = 387 ∨ f = 396) ∧ a.off = 0 then
        match s.cell a with
        | some (.map (some r)) => match s.get r with
          | some (.map es clock) => match es.toList with
            | [] => some (.slice none 0 0, s)
            | [e] => match e.key with
              | .int .i64 n => if (-9223372036854775808 ≤ n ∧ n ≤ 9223372036854775807) ∧ e.born < clock then
                  some (.slice (some ⟨s.next, 0, none⟩) 1 1, s.push (.cells #[.int .i64 n] 3 (0, 0)))
                else none
              | _ => none
            | _ => none
          | _ => none
        | _ => none
      else none
    | _, _ => none
  | _ => none
/-- what is known without 'awake' -/
noncomputable def knownA : FuncId → Option CallC := fun f => if f = 375 then some sortedK else none
/-- 'awake' answers true, and leaves what is known as it is -/
noncomputable def awakeK : CallC := fun _ args s => match args.toList with
  | [] => cond (Nat.ble s.next 3600) (some (.bool true, ⟨s.heap, 3894⟩)) none
  | _ => none
noncomputable def knownI : FuncId → Option CallC := fun f => if f = 375 then some sortedK else if f = 11 then some awakeK else none
def extI : FuncId → Option Ext := fun f =>
  if f = 379 then some .clone
  else if f = 291 then some (.free Extern.BytealgIndexByte.indexByte)
  else if f = 249 then some (.free Extern.BytealgCount.count)
  else none
noncomputable abbrev P0 : Program := Tryz.prog
noncomputable def callA : CallC := callC P0 extI knownA 100000 60
noncomputable def callI : CallC := callC P0 extI knownI 100000 60
noncomputable def ids : SpIds := ⟨6, 9, 1⟩
def isSome' {α : Type} : Option α → Bool
  | some _ => true
  | none => false
end Go.Proofs.YtkandjlcimggkaaGreatDoor
