import Derived.Test.YtkandjlcimggkaaGreatDoorKNext
import Derived.Test.YtkandjlcimggkaaGreatDoorKFacts
import Derived.Test.YtkandjlcimggkaaGreatDoorAm6
namespace Go.Proofs.YtkandjlcimggkaaGreatDoor
open Go.Am Go.RowKit

/-- the list that is drawn from -/
structure Src where
  len : Nat
  z : Nat → Int
  hlen : len ≤ maxLen

noncomputable def Src.orc (c : Src) (k n : Nat) : Nat := ((if k < c.len then c.z k else 7 * (k : Int) + 3) % (n : Int)).toNat

theorem Src.orc_lt (c : Src) (k n : Nat) (hn : 0 < n) : c.orc k n < n := by
  unfold Src.orc
  have h1 := Int.emod_nonneg (if k < c.len then c.z k else 7 * (k : Int) + 3) (by omega : (n : Int) ≠ 0)
  have h2 := Int.emod_lt_of_pos (if k < c.len then c.z k else 7 * (k : Int) + 3) (by omega : 0 < (n : Int))
  omega

/-- a slice that holds the list -/
def SlOk (W : World) (c : Src) (v : Value) : Prop := ∃ p cap, v = .slice p c.len cap ∧
  ∀ i, i < c.len → ∃ b o, p = some ⟨b, o, none⟩ ∧ b < W.heap.size ∧ W.cell? ⟨b, o + i, none⟩ = some (.int .i64 (c.z i))

/-- what is known beside the written memory: the box of the draws, and that all that was there is as it was -/
structure JD (W : World) (c : Src) (B : Nat) (ρ : Ren) (s : St) (w : World) (k : Nat) : Prop where
  box : ∃ g, ρ 1 = some g ∧ g.blk = B
  base : W.heap.size ≤ B
  im : ∀ β, (β < W.heap.size ∨ β = B) → ¬ Im ρ s β
  size : B < w.heap.size
  same : ∀ β, β < W.heap.size → w.heap[β]? = W.heap[β]?
  cell : ∃ cs e fr sl, w.heap[B]? = some (.cells cs e fr) ∧ cs[0]? = some sl ∧ SlOk W c sl ∧ cs[1]? = some (.int .i64 (k : Int)) ∧ ∀ i, i < cs.size → ¬ (fr.1 ≤ i ∧ i < fr.2)
  os : w.os = W.os
  tape : w.tape = W.tape
  out : w.output = W.output

section
variable {W : World} {c : Src} {B : Nat}

theorem JD.sub {ρ : Ren} {s : St} {w : World} {k n : Nat} {h : Tr Obj} (hj : JD W c B ρ s w k) (hs : ∀ b o, (⟨h, n⟩ : St).get b = some o → s.get b = some o) : JD W c B ρ ⟨h, n⟩ w k :=
  { hj with im := fun β hβ ⟨b, g, o, h1, h2, h3, h4⟩ => hj.im β hβ ⟨b, g, o, h1, h2, hs b o h3, h4⟩ }

theorem JD.op {ρ : Ren} {s : St} {w : World} {ρ1 : Ren} {s1 : St} {w1 : World} {k N : Nat} (hj : JD W c B ρ s w k) (ho : Out P0 ρ s w ρ1 s1 w1) (hf : Free ρ s.next N) (hN : s1.next ≤ N) : JD W c B ρ1 s1 w1 k where
  box := by obtain ⟨g, h1, h2⟩ := hj.box; exact ⟨g, ho.le _ _ h1, h2⟩
  base := hj.base
  im := fun β hβ hi => by
    rcases ho.im (fun b h1 h2 => hf b h1 (Nat.lt_of_lt_of_le h2 hN)) hi with h | h
    · have h1 := hj.size; have h2 := hj.base; omega
    · exact hj.im β hβ h
  size := Nat.lt_of_lt_of_le hj.size ho.size
  same := fun β hβ => by rw [ho.frame β (by have h1 := hj.size; have h2 := hj.base; omega) (hj.im β (.inl hβ))]; exact hj.same β hβ
  cell := by obtain ⟨cs, e, fr, sl, h, h'⟩ := hj.cell; exact ⟨cs, e, fr, sl, by rw [ho.frame _ hj.size (hj.im _ (.inr rfl))]; exact h, h'⟩
  os := ho.os.trans hj.os
  tape := ho.tape.trans hj.tape
  out := ho.out.trans hj.out

theorem heap_setCell_at (w : World) (g i : Nat) (cs : Array Value) (t : TypeId) (fr : Nat × Nat) (v : Value) (hg : w.heap[g]? = some (.cells cs t fr)) :
    (w.setCell ⟨g, i, none⟩ v).heap[g]? = some (.cells (cs.setIfInBounds i v) t fr) := by
  simp [World.setCell, Array.getElem?_modify, hg]

theorem JD.drawn {ρ : Ren} {s : St} {w : World} {k m : Nat} (hj : JD W c B ρ s w k) (hR : R P0 ρ s w) :
    R P0 ρ s ((w.drewN m).setCell ⟨B, 1, none⟩ (.int .i64 (k + 1 : Nat))) ∧ JD W c B ρ s ((w.drewN m).setCell ⟨B, 1, none⟩ (.int .i64 (k + 1 : Nat))) (k + 1) := by
  have hne : ∀ β, β ≠ B → ((w.drewN m).setCell ⟨B, 1, none⟩ (.int .i64 (k + 1 : Nat))).heap[β]? = w.heap[β]? := fun β h => by
    rw [heap_setCell_other _ _ _ _ h]; rfl
  have hsz : ((w.drewN m).setCell ⟨B, 1, none⟩ (.int .i64 (k + 1 : Nat))).heap.size = w.heap.size := by simp
  refine ⟨⟨fun b g h => by rw [hsz]; exact hR.lt b g h, hR.inj, fun b g o h1 h2 => ?_⟩, ?_⟩
  · cases hd : isDead o with
    | true => exact OR.of_dead hd
    | false =>
      rw [hne g.blk (fun e => hj.im _ (.inr e) ⟨b, g, o, h1, rfl, h2, hd⟩)]
      exact hR.obj b g o h1 h2
  · obtain ⟨cs, e, fr, sl, h1, h2, h3, h4, h5⟩ := hj.cell
    refine ⟨hj.box, hj.base, hj.im, by rw [hsz]; exact hj.size, fun β hβ => by rw [hne β (by have := hj.base; omega)]; exact hj.same β hβ, ⟨cs.setIfInBounds 1 (.int .i64 (k + 1 : Nat)), e, fr, sl, ?_, ?_, h3, ?_, ?_⟩, hj.os, hj.tape, hj.out⟩
    · exact heap_setCell_at (w.drewN m) B 1 cs e fr _ h1
    · rw [Array.getElem?_setIfInBounds_ne (by omega)]; exact h2
    · obtain ⟨hlt, _⟩ := Array.getElem?_eq_some_iff.1 h4
      rw [Array.getElem?_setIfInBounds_self_of_lt hlt]
    · intro i hi; exact h5 i (by simpa using hi)

theorem JD.next {ρ : Ren} {s : St} {w : World} {k n : Nat} (hk : k < 1000) (hn1 : 1 ≤ n) (hn2 : n ≤ 100) (hj : JD W c B ρ s w k) (hR : R P0 ρ s w) :
    Calls P0 9 #[.pointer (some ⟨B, 0, none⟩), .int .i64 (n : Int)] w fun e w1 => e = .returned (.int .i64 (c.orc k n : Nat)) ∧ R P0 ρ s w1 ∧ JD W c B ρ s w1 (k + 1) := by
  obtain ⟨cs, e, fr, sl, he, hc0, ⟨p, cap, rfl, hsl⟩, hc1, hfr⟩ := hj.cell
  have h0 : w.cell? ⟨B, 0, none⟩ = some (.slice p c.len cap) := by unfold World.cell?; rw [he]; exact hc0
  have h1 : w.cell? ⟨B, 1, none⟩ = some (.int .i64 (k : Int)) := by unfold World.cell?; rw [he]; exact hc1
  have hf : w.frozen? ⟨B, 1, none⟩ = false := by
    unfold World.frozen?; rw [he]
    obtain ⟨hlt, _⟩ := Array.getElem?_eq_some_iff.1 hc1
    have := hfr 1 hlt
    simp only [Bool.and_eq_false_iff, decide_eq_false_iff_not]
    by_cases h : fr.1 ≤ 1
    · exact .inr (fun h' => this ⟨h, h'⟩)
    · exact .inl h
  have ho : ((c.orc k n : Nat) : Int) = (if k < c.len then c.z k else 7 * (k : Int) + 3) % (n : Int) := by
    unfold Src.orc
    have h1 := Int.emod_nonneg (if k < c.len then c.z k else 7 * (k : Int) + 3) (by omega : (n : Int) ≠ 0)
    omega
  by_cases hlt : k < c.len
  · obtain ⟨b, o, rfl, hold, hcl⟩ := hsl k hlt
    have hcell : w.cell? ⟨b, o + k, none⟩ = some (.int .i64 (c.z k)) := by
      unfold World.cell? at hcl ⊢
      rw [hj.same _ hold]; exact hcl
    refine (next_in B b o c.len cap k (c.z k) (n : Int) w hlt hk c.hlen (by omega) (by omega) h0 h1 hf hcell).mono ?_
    rintro e w1 ⟨rfl, m, rfl⟩
    obtain ⟨q1, q2⟩ := hj.drawn (m := m) hR
    exact ⟨ret_int (by rw [ho, if_pos hlt]), q1, q2⟩
  · refine (next_out B c.len cap k p (n : Int) w hlt hk (by omega) (by omega) h0 h1 hf).mono ?_
    rintro e w1 ⟨rfl, m, rfl⟩
    obtain ⟨q1, q2⟩ := hj.drawn (m := m) hR
    exact ⟨ret_int (by rw [ho, if_neg hlt]), q1, q2⟩

set_option maxHeartbeats 400000 in
theorem JD.mode {ρ : Ren} {s : St} {w : World} {k : Nat} (hk : k < 1000) (hj : JD W c B ρ s w k) (hR : R P0 ρ s w) :
    Calls P0 6 #[.pointer (some ⟨B, 0, none⟩)] w fun e w1 => e = .returned (.int .i64 ((1 + c.orc k 3 : Nat) : Int)) ∧ R P0 ρ s w1 ∧ JD W c B ρ s w1 (k + 1) := by
  have hc := JD.next (n := 3) hk (by omega) (by omega) hj hR
  have hlt := c.orc_lt k 3 (by omega)
  generalize c.orc k 3 = v at hc hlt
  clear hj hR
  go_enter Tryz.func6, Tryz.ntmps6
  go_wp2_with (go_at_call 9; refine hc.mono ?_; rintro e w1 ⟨rfl, q1, q2⟩)
  go_ret
  refine ⟨ret_int ?_, q1, q2⟩
  omega

end

theorem jok (W : World) (c : Src) (B : Nat) : JOk P0 ids c.orc (JD W c B) where
  op := fun ρ s w ρ1 s1 w1 k N hj ho hf hN => hj.op ho hf hN
  mode := fun ρ s w k g hk hj hR hg => by
    obtain ⟨g', h1, h2⟩ := hj.box
    have : g = g' := Option.some.inj (hg.symm.trans h1)
    rw [this, h2]
    exact JD.mode hk hj hR
  next := fun ρ s w k g n hk hn hj hR hg => by
    obtain ⟨g', h1, h2⟩ := hj.box
    have : g = g' := Option.some.inj (hg.symm.trans h1)
    rw [this, h2]
    exact JD.next hk (by omega) (by omega) hj hR
  body := ⟨⟨_, _, Tryz.func6, rfl⟩, ⟨_, _, Tryz.func9, rfl⟩⟩
end Go.Proofs.YtkandjlcimggkaaGreatDoor
