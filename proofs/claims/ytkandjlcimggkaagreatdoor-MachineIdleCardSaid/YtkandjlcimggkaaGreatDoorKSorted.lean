import Derived.Test.YtkandjlcimggkaaGreatDoorKLay
import Derived.Test.YtkandjlcimggkaaGreatDoorKJ
namespace Go.Proofs.YtkandjlcimggkaaGreatDoor
open Go.RowKit Go.Maps Go.Sort Go.Shelf

theorem sorts_lay (m : Nat) : AnyZI.SortsIn Tryz.prog lay_sortedA_ren Fence.wide m :=
  ⟨fun blk off cap ss W hH hblk hsz => callsIn_wide.2 (AnyM.slices_Sort_int lay_sortA blk off cap ss W hH hblk hsz),
   fun p cap W => callsIn_wide.2 (AnyM.slices_Sort_int_none lay_sortA p cap W)⟩

def SortedPost (ks : List Int) (w : World) (e : Ending) (w' : World) : Prop := ∃ (v : Value) (ss : List Int), e = .returned v ∧ ss.Perm ks ∧
  w'.ownsRow w.heap.size 3 1 v ss.length ((ss.mergeSort (fun x y => decide (x ≤ y))).map encZ) ∧ (v = .slice none 0 0 ↔ ss = []) ∧ Below w.heap.size w w'

theorem sorted_of {H : Type} (g Bm : Nat) (D0 : DataW H) (w : World) (hmax : Maps.size D0 ≤ maxLen) (hbytes : Maps.size D0 * 8 ≤ 140737488355328) (eg : ∀ args w, (callFunc g args).run Tryz.prog w = .ok (.enter g args) w)
    (hseq : SeqGives Fence.wide 2 Tryz.prog g #[.pointer (some ⟨Bm, 0, none⟩)] encZ (fun ss => ss.Perm (intKeys D0)) (Maps.size D0) w) :
    Calls Tryz.prog 375 #[.func (.func g) #[] #[.pointer (some ⟨Bm, 0, none⟩)]] w (SortedPost (intKeys D0) w) := by
  refine (callsIn_wide (n := 5)).1 ?_
  have cS := AnyZI.sorted_in lay_sortedA Fence.wide 5 trivial trivial trivial trivial rfl (by omega) (sorts_lay _) (enters_of Tryz.func133 (by kernel_rfl) rfl) g #[.pointer (some ⟨Bm, 0, none⟩)] trivial eg _ _ hmax hbytes _ hseq
  exact cS

theorem sorted_any {H : Type} (g Bm b nn : Nat) (D0 : DataW H) (R : Value → Option (DataW H × List MemPlace)) (w : World) (hg : g = 386 ∨ g = 387 ∨ g = 396) (hBm : Bm < w.heap.size) (hm : w.cell? ⟨Bm, 0, none⟩ = some (.map (some b)))
    (hown : w.ownsMap Tryz.prog 3 R b nn D0) (hmax : Maps.size D0 ≤ maxLen) (hbytes : Maps.size D0 * 8 ≤ 140737488355328) :
    Calls Tryz.prog 375 #[.func (.func g) #[] #[.pointer (some ⟨Bm, 0, none⟩)]] w (SortedPost (intKeys D0) w) := by
  rcases hg with rfl | rfl | rfl
  · exact sorted_of 386 Bm D0 w hmax hbytes (enters_of Tryz.func386 (by kernel_rfl) rfl) (AnyZI.keys_gives (ρ := lay_keysA_ren) { lay_keysA with } Fence.wide _ trivial rfl (by omega) Bm b nn D0 _ hBm hm hown)
  · exact sorted_of 387 Bm D0 w hmax hbytes (enters_of Tryz.func387 (by kernel_rfl) rfl) (AnyZI.keys_gives (ρ := lay_keysB_ren) { lay_keysB with } Fence.wide _ trivial rfl (by omega) Bm b nn D0 _ hBm hm hown)
  · exact sorted_of 396 Bm D0 w hmax hbytes (enters_of Tryz.func396 (by kernel_rfl) rfl) (AnyZI.keys_gives (ρ := lay_keysC_ren) { lay_keysC with } Fence.wide _ trivial rfl (by omega) Bm b nn D0 _ hBm hm hown)
end Go.Proofs.YtkandjlcimggkaaGreatDoor
