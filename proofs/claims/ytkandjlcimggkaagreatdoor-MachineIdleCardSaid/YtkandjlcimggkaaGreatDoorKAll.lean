import Derived.Test.YtkandjlcimggkaaGreatDoorKTop
import Derived.Test.YtkandjlcimggkaaGreatDoorKM0
import Derived.Test.YtkandjlcimggkaaGreatDoorKM1
namespace Go.Proofs.YtkandjlcimggkaaGreatDoor
open Go.Am Go.RowKit
set_option maxRecDepth 100000

section
variable {W : World} {c : Src} {B : Nat}

/-- behind the start: the mode is drawn, and its script runs -/
theorem rest_any {a' : Act} {w : World} (hat : AtM P0 (JD W c B) 91 [(3, ptr 1)] ⟨.e, 2⟩ 0 a' w) :
    (seqThen (nthC 2 body3) [nthC 3 body3, nthC 4 body3, nthC 5 body3, nthC 6 body3] restI).wp P0 (bodyPost P0 Tryz.f3 (DoneI W)) a' w := by
  have hJ := jok W c B
  have hlt := c.orc_lt 0 3 (by omega)
  obtain hm | hm | hm : c.orc 0 3 = 0 ∨ c.orc 0 3 = 1 ∨ c.orc 0 3 = 2 := by omega
  · refine AtM.seqs fine extOk callI_sound hJ keepJ (fun x => pre_0 x (fun _ => false)) (nextM_0_le 0 (by omega)) hat (fits_one (by omega) hm) ?_
    intro a1 w1 hat1
    exact mode_of nsM_0 osM_0 nextM_0 nextM_0_le hdM_0 rdM_0 enM_0 first_0 (r := .ofNat 0) (b := fun _ => false) hat1
  · refine AtM.seqs fine extOk callI_sound hJ keepJ (fun x => pre_1 x (fun _ => false)) (nextM_1_le 0 (by omega)) hat (fits_one (by omega) hm) ?_
    intro a1 w1 hat1
    exact mode_of nsM_1 osM_1 nextM_1 nextM_1_le hdM_1 rdM_1 enM_1 first_1 (r := .ofNat 0) (b := fun _ => false) hat1
  · refine AtM.seqs fine extOk callI_sound hJ keepJ (fun x => pre_2 x (fun _ => false)) (nextM_2_le 0 (by omega)) hat (fits_one (by omega) hm) ?_
    intro a1 w1 hat1
    exact mode_of nsM_2 osM_2 nextM_2 nextM_2_le hdM_2 rdM_2 enM_2 first_2 (r := .ofNat 0) (b := fun _ => false) hat1

/-- the whole call, once the list is in its box -/
theorem idle_from {v0 v : Value} {ρ0 : Ren} (hv : VR P0 ρ0 v0 v) (hsl : ∀ ρ1 v', Le ρ0 ρ1 → VR P0 ρ1 v0 v' → SlOk W c v') (h1 : ρ0 1 = none) (hf : Free ρ0 1 lim) (hR0 : R P0 ρ0 ⟨.e, 1⟩ W)
    (hrun : seeC [3] [1] (codeC P0 extI callI 1000 (seqOf (nthC 0 body3) [nthC 1 body3]) ⟨setAll [v0] 0 .e, 91⟩ ⟨.e, 1⟩) = some ⟨.normal, 91, [ptr 1], 2, [Obj.cells #[v0, .int .i64 (.ofNat 0)] 52 (0, 0)].map some⟩) :
    Calls P0 3 #[v] W (DoneI W) := by
  refine calls_of_wp Tryz.func3 body3_eq ?_
  have hargs : VRs P0 ρ0 #[v0] #[v] := ⟨rfl, fun i h h' => by
    have : i = 0 := by simp at h; omega
    subst this; exact hv⟩
  have hA := args_rel (P := P0) hargs (n := Tryz.f3.ntmps) (by rw [ntmps3]; exact Nat.le_of_ble_eq_true rfl)
  have e : (max (#[v0] : Array Value).size Tryz.f3.ntmps) = 91 := by rw [ntmps3]; rfl
  rw [e] at hA
  have hwf0 : WF ⟨.e, 1⟩ := ⟨by decide, fun b _ => rfl⟩
  refine pieceCs fine extOk callI_sound follows hrun hA hR0 hwf0 (N := lim) (by decide) (Nat.le_refl _) hf ?_
  intro a1 w1 ρ1 x hA1 ho
  have hno : ∀ β, ¬ Im ρ0 ⟨.e, 1⟩ β := fun β ⟨b, g, o, _, _, h3, _⟩ => by cases h3
  have hp : VR P0 ρ1 (ptr 1) (a1.tmps.getD 3 undef) := by
    have := hA1.at_ 3
    rw [actOf_get (by decide)] at this
    exact this
  obtain ⟨g, hg⟩ : ∃ g, ρ1 1 = some g := by
    generalize a1.tmps.getD 3 undef = q at hp
    cases hp with
    | ptr _ g hg => exact ⟨g, hg⟩
  have hbase : W.heap.size ≤ g.blk := by
    rcases (ho.new 1 g hg h1).2.2 with h | h
    · exact h
    · exact (hno _ h).elim
  have hor := ho.r.obj 1 g (.cells #[v0, .int .i64 (.ofNat 0)] 52 (0, 0)) hg rfl
  unfold OR at hor
  split at hor
  · rename_i cs0 e0 f0 cs e' fr heq hw
    cases heq
    obtain ⟨_, _, _, _, _, hle, hfr, hat⟩ := hor
    obtain ⟨sl, hs0, hs1⟩ := hat 0 _ rfl
    obtain ⟨i0, hi0, hi1⟩ := hat 1 _ rfl
    have hi : i0 = .int .i64 (.ofNat 0) := by cases hi1; rfl
    subst hi
    refine rest_any (c := c) (B := g.blk) ⟨ρ1, x, hA1, RH.sub ho.r (fun b o hb => by cases hb), ⟨by decide, fun b _ => rfl⟩, by decide, fun b h2 h3 => ?_, ?_⟩
    · have := ho.free hf
      exact this b h2 h3
    · exact ⟨⟨g, hg, rfl⟩, hbase, (fun β _ ⟨b, g, o, _, _, h3, _⟩ => by cases h3), ho.r.lt 1 g hg, fun β hβ => ho.frame β hβ (hno β), ⟨cs, e', fr, sl, hw, hs0, hsl ρ1 sl ho.le hs1, hi0, hfr⟩, ho.os, ho.tape, ho.out⟩
  · rename_i heq _; cases heq
  · rename_i heq _; cases heq
  · rename_i heq _; cases heq
  · simp [isDead] at hor

theorem idle_nil (cp : Nat) (hlen : c.len = 0) : Calls P0 3 #[.slice none 0 cp] W (DoneI W) := by
  refine idle_from (c := c) (ρ0 := fun _ => none) (.slNil 0 cp) ?_ rfl (fun _ _ _ => rfl) ⟨(fun b g h => by cases h), (fun _ _ _ _ _ _ h => by cases h), (fun _ _ _ h => by cases h)⟩ (start_nil 0 cp)
  intro ρ1 v' _ h
  cases h
  exact ⟨none, cp, by rw [hlen], fun i hi => by omega⟩

theorem idle_sl (b o cp : Nat) (hb : b < W.heap.size) (hc : ∀ i, i < c.len → W.cell? ⟨b, o + i, none⟩ = some (.int .i64 (c.z i))) : Calls P0 3 #[.slice (some ⟨b, o, none⟩) c.len cp] W (DoneI W) := by
  refine idle_from (c := c) (v0 := .slice (some ⟨0, o, none⟩) c.len cp) (ρ0 := fun x => if x = 0 then some ⟨b, 0, 0, 0⟩ else none) (.sl ⟨0, o, none⟩ ⟨b, 0, 0, 0⟩ c.len cp o cp rfl rfl (fun _ => rfl) (.inl rfl)) ?_ rfl (fun x h _ => if_neg (by omega))
    ⟨fun x g h => ?_, (fun _ _ _ _ _ _ _ _ h => by cases h), (fun _ _ _ _ h => by cases h)⟩ (start_sl o c.len cp)
  · intro ρ1 v' hle h
    have h0 : ρ1 0 = some ⟨b, 0, 0, 0⟩ := hle 0 _ rfl
    cases h with
    | sl _ g l c1 off' c' hg hs ho hcc =>
      have e : g = ⟨b, 0, 0, 0⟩ := Option.some.inj (hg.symm.trans h0)
      subst e
      refine ⟨_, c', rfl, fun i hi => ⟨b, off', rfl, hb, ?_⟩⟩
      rw [ho (.inr (.inl (by omega)))]
      exact hc i hi
  · split at h
    · cases h; exact hb
    · cases h
end
end Go.Proofs.YtkandjlcimggkaaGreatDoor
