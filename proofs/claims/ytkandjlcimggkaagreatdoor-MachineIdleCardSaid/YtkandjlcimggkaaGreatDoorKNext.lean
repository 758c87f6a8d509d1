import Derived.Test.YtkandjlcimggkaaGreatDoorProg
import Derived.WalkKit
import Derived.WalkSpells
import Derived.Deep.QuietTactic
import Derived.BigQuiet
namespace Go.Proofs.YtkandjlcimggkaaGreatDoor
open Go.RowKit

theorem ret_int {k : IntKind} {a b : Int} (h : a = b) : Ending.returned (.int k a) = .returned (.int k b) := by rw [h]
theorem mod_pos {z n : Int} (hn : 1 ≤ n) (h : 0 ≤ z.tmod n) : z.tmod n = z % n := by
  rw [Int.tmod_eq_emod] at h ⊢
  have h1 := Int.emod_lt_of_pos z (by omega : 0 < n)
  have h2 : (n.natAbs : Int) = n := Int.natAbs_of_nonneg (by omega)
  split
  · simp
  · rename_i hc
    rw [if_neg hc] at h
    omega
theorem mod_neg {z n : Int} (hn : 1 ≤ n) (h : z.tmod n < 0) : z.tmod n + n = z % n := by
  rw [Int.tmod_eq_emod] at h ⊢
  have h0 := Int.emod_nonneg z (by omega : n ≠ 0)
  have h2 : (n.natAbs : Int) = n := Int.natAbs_of_nonneg (by omega)
  split
  · rename_i hc
    rw [if_pos hc] at h
    omega
  · omega

set_option maxHeartbeats 400000 in
theorem next_in (B b o len cap k : Nat) (z n : Int) (w : World) (hk : k < len) (hk1 : k < 1000) (_hl : len ≤ maxLen) (hn1 : 1 ≤ n) (hn2 : n ≤ 100)
    (h0 : w.cell? ⟨B, 0, none⟩ = some (.slice (some ⟨b, o, none⟩) len cap)) (h1 : w.cell? ⟨B, 1, none⟩ = some (.int .i64 k)) (hf : w.frozen? ⟨B, 1, none⟩ = false)
    (hz : w.cell? ⟨b, o + k, none⟩ = some (.int .i64 z)) :
    Calls Tryz.prog 9 #[.pointer (some ⟨B, 0, none⟩), .int .i64 n] w fun e w' => e = .returned (.int .i64 (z % n)) ∧ ∃ m, w' = (w.drewN m).setCell ⟨B, 1, none⟩ (.int .i64 (k + 1 : Nat)) := by
  unfold maxLen at _hl
  go_enter Tryz.func9, Tryz.ntmps9
  go_wp2
  go_quiet (fail)
  go_wp2
  go_quiet (fail)
  go_wp2
  · rename_i hneg
    go_ret
    have hm := mod_neg hn1 hneg
    have h5 := Int.emod_nonneg z (by omega : n ≠ 0)
    have h6 : wrap64 (z.tmod n + n) = z % n := by unfold wrap64; omega
    exact ⟨ret_int h6, _, by rw [Int.natCast_add]; rfl⟩
  · rename_i hneg
    go_ret
    exact ⟨ret_int (mod_pos hn1 hneg), _, by rw [Int.natCast_add]; rfl⟩

set_option maxHeartbeats 400000 in
theorem next_out (B len cap k : Nat) (p : Option Addr) (n : Int) (w : World) (hk : ¬ k < len) (hk1 : k < 1000) (hn1 : 1 ≤ n) (hn2 : n ≤ 100)
    (h0 : w.cell? ⟨B, 0, none⟩ = some (.slice p len cap)) (h1 : w.cell? ⟨B, 1, none⟩ = some (.int .i64 k)) (hf : w.frozen? ⟨B, 1, none⟩ = false) :
    Calls Tryz.prog 9 #[.pointer (some ⟨B, 0, none⟩), .int .i64 n] w fun e w' => e = .returned (.int .i64 ((7 * (k : Int) + 3) % n)) ∧ ∃ m, w' = (w.drewN m).setCell ⟨B, 1, none⟩ (.int .i64 (k + 1 : Nat)) := by
  have hk2 : len ≤ k := by omega
  go_enter Tryz.func9, Tryz.ntmps9
  go_wp2
  go_quiet (fail)
  go_wp2
  · go_ret
    exact ⟨rfl, _, by rw [Int.natCast_add]; rfl⟩
end Go.Proofs.YtkandjlcimggkaaGreatDoor
