import Derived.Test.YtkandjlcimggkaaGreatDoorKJ
import Derived.Test.YtkandjlcimggkaaGreatDoorKKnownAw
import Derived.Test.YtkandjlcimggkaaGreatDoorAm6
import Derived.Test.YtkandjlcimggkaaGreatDoorKM2
namespace Go.Proofs.YtkandjlcimggkaaGreatDoor
open Go.Am Go.RowKit
set_option maxRecDepth 100000

/-! ## The start: the list is put into its box -/
theorem start_sl (o l cp : Nat) : seeC [3] [1] (codeC P0 extI callI 1000 (seqOf (nthC 0 body3) [nthC 1 body3]) ⟨setAll [.slice (some ⟨0, o, none⟩) l cp] 0 .e, 91⟩ ⟨.e, 1⟩) =
    some ⟨.normal, 91, [ptr 1], 2, [Obj.cells #[.slice (some ⟨0, o, none⟩) l cp, .int .i64 (.ofNat 0)] 52 (0, 0)].map some⟩ := by kernel_rfl
theorem start_nil (l cp : Nat) : seeC [3] [1] (codeC P0 extI callI 1000 (seqOf (nthC 0 body3) [nthC 1 body3]) ⟨setAll [.slice none l cp] 0 .e, 91⟩ ⟨.e, 1⟩) =
    some ⟨.normal, 91, [ptr 1], 2, [Obj.cells #[.slice none l cp, .int .i64 (.ofNat 0)] 52 (0, 0)].map some⟩ := by kernel_rfl

noncomputable def restI : Code := .seq (.seq (nthC 0 (nthC 7 body3)) (.block 2 (.loop (.seq headC bodyC)))) endC
theorem body3_eq : Tryz.f3.body = some (seqThen (nthC 0 body3) [nthC 1 body3] (seqThen (nthC 2 body3) [nthC 3 body3, nthC 4 body3, nthC 5 body3, nthC 6 body3] restI)) := by kernel_rfl
theorem res3 : Tryz.f3.results.toList = [.tmp 2] := by kernel_rfl
theorem ntmps3 : Tryz.f3.ntmps = 91 := by kernel_rfl
theorem pre_eq : preC = seqOf (nthC 2 body3) [nthC 3 body3, nthC 4 body3, nthC 5 body3, nthC 6 body3] := rfl
theorem first_0 (x : Nat → Value) (h : Tr Obj) : seeH [3, 6, 9] (codeN P0 extI callI ids 1000 (nthC 0 (nthC 7 body3)) (actOf 91 [(3, ptr 1), (6, ptr 41)] x) ⟨h, next_0_0⟩ []) =
    some ⟨.normal, 91, vsI 0, h, next_0_0, []⟩ := by kernel_rfl
theorem first_1 (x : Nat → Value) (h : Tr Obj) : seeH [3, 6, 9] (codeN P0 extI callI ids 1000 (nthC 0 (nthC 7 body3)) (actOf 91 [(3, ptr 1), (6, ptr 41)] x) ⟨h, next_1_0⟩ []) =
    some ⟨.normal, 91, vsI 0, h, next_1_0, []⟩ := by kernel_rfl
theorem first_2 (x : Nat → Value) (h : Tr Obj) : seeH [3, 6, 9] (codeN P0 extI callI ids 1000 (nthC 0 (nthC 7 body3)) (actOf 91 [(3, ptr 1), (6, ptr 41)] x) ⟨h, next_2_0⟩ []) =
    some ⟨.normal, 91, vsI 0, h, next_2_0, []⟩ := by kernel_rfl

section
variable {W : World} {c : Src} {B : Nat}

theorem keepJ : ∀ ρ s w k n h, JD W c B ρ s w k → (∀ b o, (⟨h, n⟩ : St).get b = some o → s.get b = some o) → JD W c B ρ ⟨h, n⟩ w k := fun _ _ _ _ _ _ hj hs => hj.sub hs

/-- what is to be shown at the end -/
def DoneI (W : World) : Ending → World → Prop := fun e w' => e = .returned (.bool true) ∧ Below W.heap.size W w'

theorem end_of {a1' : Act} {w1 : World} {k : Nat} (h : AtM P0 (JD W c B) 91 ([2].zip [.bool true]) (memOf [] [] 3894) k a1' w1) :
    bodyPost P0 Tryz.f3 (DoneI W) .ret a1' w1 := by
  obtain ⟨ρ, x, hA, hR, hwf, _, _, hj⟩ := h
  have hget : (actOf 91 ([2].zip [Value.bool true]) x).get 2 = .bool true := by
    rw [actOf_get (by decide)]; rfl
  have hres : resC P0 (actOf 91 ([2].zip [Value.bool true]) x) (memOf [] [] 3894) Tryz.f3.results.toList = some [.bool true] := by
    rw [res3]
    show Option.map _ _ = _
    rw [hget]; rfl
  obtain ⟨v', h1, h2⟩ := results_run hA hR hwf hres
  have hv : v' = .bool true := by cases h2; rfl
  subst hv
  exact ⟨hA.defers, _, h1, rfl, ⟨hj.os, hj.tape, hj.out, by have h1 := hj.base; have h2 := hj.size; omega, hj.same⟩⟩

/-- one mode's script: behind the prelude -/
theorem mode_of (ns : Nat → List Nat) (os : Nat → Int → (Nat → Bool) → List Obj) (next : Nat → Nat) (hnext : ∀ j, j ≤ 6 → next j ≤ lim)
    (hhd : ∀ j, j ≤ 6 → ∀ c, c < 6 → ∀ h x, seeH [3, 6, 9] (codeN P0 extI callI ids 1000 headC (actOf 91 (liveI j) x) ⟨h, next j⟩ [(6, c)]) = some ⟨if j < 1 + c then .normal else .exit 2, 91, vsI j, h, next j, []⟩)
    (hrd : ∀ j, j < 6 → ∀ f, f < 2 → ∀ r b, ∃ r' b', ∀ x, seeN [3, 6, 9] (ns (j + 1)) (codeN P0 extI callI ids 1000 bodyC (actOf 91 (liveI j) x) (memOf (ns j) (os j r b) (next j)) [(2, f)]) =
      some ⟨.normal, 91, vsI (j + 1), next (j + 1), (os (j + 1) r' b').map some, []⟩)
    (hen : ∀ j, 1 ≤ j → j ≤ 6 → ∀ r b x, seeN [2] [] (codeN P0 extI callI ids 1000 endC (actOf 91 (liveI j) x) (memOf (ns j) (os j r b) (next j)) []) = some ⟨.ret, 91, [.bool true], 3894, [], []⟩)
    (hfirst : ∀ x h, seeH [3, 6, 9] (codeN P0 extI callI ids 1000 (nthC 0 (nthC 7 body3)) (actOf 91 [(3, ptr 1), (6, ptr 41)] x) ⟨h, next 0⟩ []) = some ⟨.normal, 91, vsI 0, h, next 0, []⟩)
    {r : Int} {b : Nat → Bool} {a' : Act} {w : World} (hat : AtM P0 (JD W c B) 91 [(3, ptr 1), (6, ptr 41)] (memOf (ns 0) (os 0 r b) (next 0)) 1 a' w) :
    restI.wp P0 (bodyPost P0 Tryz.f3 (DoneI W)) a' w := by
  have hJ := jok W c B
  refine wp_seq (wp_seq ?_)
  refine AtM.pieceH fine extOk callI_sound hJ (fun x => hfirst x _) hat (fits_nil (by omega)) ?_
  intro a1 w1 hat1
  have hat1' : AtM P0 (JD W c B) 91 (liveI 0) (memOf (ns 0) (os 0 r b) (next 0)) 1 a1 w1 := hat1
  show (Code.block 2 (.loop (.seq headC bodyC))).wp P0 _ a1 w1
  refine wp_block (LoopWp.loop ?_)
  refine rounds fine extOk callI_sound hJ keepJ (fun k => c.orc_lt k 6 (by omega)) (fun k => c.orc_lt k 2 (by omega)) (exit := 2) (live := liveI) (vs := vsI) liveI_zip ns os next hnext hhd hrd ?_ 6 0 rfl r b 1 a1 w1 (by omega) hat1'
  intro j h1 h2 r b k a2 w2 hk hat2
  show endC.wp P0 _ a2 w2
  refine AtM.piece fine extOk callI_sound hJ keepJ (os := []) (hen j h1 h2 r b) (by decide) hat2 (fits_nil (by omega)) ?_
  intro a3 w3 hat3
  exact end_of hat3
end
end Go.Proofs.YtkandjlcimggkaaGreatDoor
