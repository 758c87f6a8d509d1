import Derived.Test.YtkandjlcimggkaaGreatDoorKKnown
import Derived.Test.YtkandjlcimggkaaGreatDoorKAwA
import Derived.Test.YtkandjlcimggkaaGreatDoorKAwB
import Derived.Test.YtkandjlcimggkaaGreatDoorKExt
namespace Go.Proofs.YtkandjlcimggkaaGreatDoor
open Go.Am
set_option maxRecDepth 100000

theorem knownA_ok : KnownOk P0 knownA := by
  intro f k h args s v s1 hk ρ args' w N hargs hR hwf hN hl hfree
  unfold knownA at h
  split at h
  · rename_i hf
    cases h
    subst hf
    exact known_sorted args s v s1 hk ρ args' w N hargs hR hwf hN hl hfree
  · cases h

theorem callA_sound : CallSound P0 callA := callC_sound fine extOk follows knownA_ok 100000 60

theorem body11_eq : Tryz.f11.body = some (seqThen (nthC 0 body11) [nthC 1 body11, nthC 2 body11, nthC 3 body11] (seqThen (nthC 4 body11) [] (restC 5 body11))) := by kernel_rfl
theorem res11 : Tryz.f11.results.toList = [.tmp 0] := by kernel_rfl
theorem ntmps11 : Tryz.f11.ntmps = 61 := by kernel_rfl
theorem body11_fn : P0.funcs[11]? = some Tryz.f11 := Tryz.func11

theorem known_awake (args : Array Value) (s : St) (v : Value) (s1 : St) (h : awakeK 11 args s = some (v, s1)) (ρ : Go.Am.Ren) (args' : Array Value) (w : World) (N : Nat) (hargs : VRs P0 ρ args args') (hR : R P0 ρ s w) (hwf : WF s)
    (hN : s1.next ≤ N) (hl : N ≤ lim) (hfree : Free ρ s.next N) : Calls P0 11 args' w fun e w1 => ∃ v' ρ1, e = .returned v' ∧ Out P0 ρ s w ρ1 s1 w1 ∧ VR P0 ρ1 v v' := by
  unfold awakeK at h
  split at h
  rotate_left 1
  · cases h
  rename_i hnil
  have e0 : args = #[] := Array.toList_inj.1 hnil
  subst e0
  have e1 : args' = #[] := Array.eq_empty_of_size_eq_zero (by simpa using hargs.size.symm)
  subst e1
  cases hle : Nat.ble s.next 3600 with
  | false => rw [hle] at h; cases h
  | true =>
    rw [hle] at h
    cases h
    have hn : s.next ≤ 3600 := Nat.le_of_ble_eq_true hle
    have hN' : 3894 ≤ N := hN
    have hf0 : Free ρ 3600 N := fun b h1 h2 => hfree b (by omega) h2
    refine calls_of_wp body11_fn body11_eq ?_
    have hA := args_rel (P := P0) (ρ := ρ) VRs.empty (n := Tryz.f11.ntmps) (by rw [ntmps11]; decide)
    have hA0 : ActR P0 ρ ⟨.e, 61⟩ { tmps := #[] ++ Array.replicate (Tryz.f11.ntmps - (#[] : Array Value).size) undef, defers := [] } := by
      have e : (max (#[] : Array Value).size Tryz.f11.ntmps) = 61 := by rw [ntmps11]; rfl
      rw [e] at hA; exact hA
    have hR0 : R P0 ρ ⟨.e, 3600⟩ w := RH.sub hR fun b o hb => by cases hb
    have hwf0 : WF ⟨.e, 3600⟩ := ⟨by decide, fun b _ => rfl⟩
    refine pieceCs fine extOk callA_sound follows aw_a hA0 hR0 hwf0 (N := N) (by show next_aw1 ≤ N; unfold next_aw1; omega) hl hf0 ?_
    intro a1 w1 ρ1 x1 hA1 ho1
    refine pieceCs fine extOk callA_sound follows (aw_b x1) hA1 ho1.r ho1.wf (N := N) (by show next_aw2 ≤ N; unfold next_aw2; omega) hl (ho1.free hf0) ?_
    intro a2 w2 ρ2 x2 hA2 ho2
    refine pieceC fine extOk callA_sound follows (os := []) (aw_c x2) hA2 ho2.r ho2.wf (N := N) hN' hl (ho2.free (ho1.free hf0)) ?_
    intro a3 w3 ρ3 x3 hA3 ho3
    have o12 := ho1.trans ho2 fun b h1 h2 => hf0 b h1 (by have h3 : b < next_aw1 := h2; unfold next_aw1 at h3; omega)
    have o13 := o12.trans ho3 fun b h1 h2 => hf0 b h1 (by have h3 : b < next_aw2 := h2; unfold next_aw2 at h3; omega)
    have olift := Out.lift o13 hR hwf hn (fun b h1 h2 => hfree b h1 (Nat.lt_of_lt_of_le h2 hN'))
    have hget : (actOf 61 ([0].zip [Value.bool true]) x3).get 0 = .bool true := by
      rw [actOf_get (by decide)]; rfl
    have hres : resC P0 (actOf 61 ([0].zip [Value.bool true]) x3) ⟨heapOf ([].zip []), 3894⟩ Tryz.f11.results.toList = some [.bool true] := by
      rw [res11]
      show Option.map _ _ = _
      rw [hget]; rfl
    obtain ⟨v', h1, h2⟩ := results_run hA3 ho3.r ho3.wf hres
    exact ⟨hA3.defers, v', h1, v', ρ3, rfl, olift, h2⟩

theorem knownI_ok : KnownOk P0 knownI := by
  intro f k h args s v s1 hk ρ args' w N hargs hR hwf hN hl hfree
  unfold knownI at h
  split at h
  · rename_i hf
    cases h
    subst hf
    exact known_sorted args s v s1 hk ρ args' w N hargs hR hwf hN hl hfree
  · split at h
    · rename_i hf
      cases h
      subst hf
      exact known_awake args s v s1 hk ρ args' w N hargs hR hwf hN hl hfree
    · cases h
theorem callI_sound : CallSound P0 callI := callC_sound fine extOk follows knownI_ok 100000 60
end Go.Proofs.YtkandjlcimggkaaGreatDoor
