import Derived.Test.YtkandjlcimggkaaGreatDoorKSorted
import Derived.Test.YtkandjlcimggkaaGreatDoorAm6
namespace Go.Proofs.YtkandjlcimggkaaGreatDoor
open Go.Am

theorem vrs_three {ρ : Go.Am.Ren} {f : FuncId} {a : Addr} {args args' : Array Value} (h : VRs P0 ρ args args') {fst capt : Array Value} (ha : args.toList = [.func (.func f) fst capt]) (hf : fst.toList = []) (hc : capt.toList = [.pointer (some a)]) :
    ∃ g, ρ a.block = some g ∧ args' = #[.func (.func f) #[] #[.pointer (some ⟨g.blk, a.off, a.spot⟩)]] := by
  have e1 : args = #[.func (.func f) fst capt] := Array.toList_inj.1 ha
  have e2 : fst = #[] := Array.toList_inj.1 hf
  have e3 : capt = #[.pointer (some a)] := Array.toList_inj.1 hc
  subst e1 e2 e3
  have hs := h.size
  obtain ⟨v', h1, h2⟩ := h.get (i := 0) rfl
  have e4 : args' = #[v'] := by
    apply Array.ext (by simpa using hs.symm)
    intro i hi _
    have : i = 0 := by simp at hs; omega
    subst this
    obtain ⟨_, h3⟩ := Array.getElem?_eq_some_iff.1 h1
    simpa using h3
  subst e4
  cases h2 with
  | func _ _ fst' _ capt' hsf hsc vf vc =>
    have e5 : fst' = #[] := by apply Array.eq_empty_of_size_eq_zero; simpa using hsf.symm
    subst e5
    have hp := vc 0 (by simp) (by simp at hsc; omega)
    have e6 : capt' = #[capt'[0]'(by simp at hsc; omega)] := by
      apply Array.ext (by simpa using hsc.symm)
      intro i hi hi2
      have : i = 0 := by simp at hi2; omega
      subst this; simp
    generalize capt'[0]'(by simp at hsc; omega) = q at hp e6
    cases hp with
    | ptr _ g hg => exact ⟨g, hg, by rw [e6]⟩

theorem cellsOf3 : P0.cellsOf 3 = 1 := by kernel_rfl

theorem known_sorted (args : Array Value) (s : St) (v : Value) (s1 : St) (h : sortedK 375 args s = some (v, s1)) (ρ : Go.Am.Ren) (args' : Array Value) (w : World) (N : Nat) (hargs : VRs P0 ρ args args') (hR : R P0 ρ s w) (hwf : WF s)
    (hN : s1.next ≤ N) (hl : N ≤ lim) (hfree : Free ρ s.next N) : Calls P0 375 args' w fun e w1 => ∃ v' ρ1, e = .returned v' ∧ Out P0 ρ s w ρ1 s1 w1 ∧ VR P0 ρ1 v v' := by
  unfold sortedK at h
  split at h
  rotate_left 1
  · cases h
  rename_i f fst capt ha
  split at h
  rotate_left 1
  · cases h
  rename_i a hf hc
  split at h
  rotate_left 1
  · cases h
  rename_i hfo
  obtain ⟨hf3, hoff⟩ := hfo
  split at h
  rotate_left 1
  · cases h
  rename_i r hcell
  obtain ⟨g, hg, rfl⟩ := vrs_three hargs ha hf hc
  obtain ⟨v0, hv0, hv1, hsp⟩ := cell_of hR hg hcell
  rw [hoff, hsp] at hv0 ⊢
  cases hv1 with
  | map _ gr hgr =>
    have hBm : g.blk < w.heap.size := hR.lt _ _ hg
    split at h
    rotate_left 1
    · cases h
    rename_i es clock hmap
    have hor := hR.obj r gr _ hgr hmap
    unfold OR at hor
    split at hor
    · rename_i heq _; cases heq
    · rename_i es0 k0 es' k' heq hw
      cases heq
      obtain ⟨hk, hsz, hent⟩ := hor
      subst hk
      split at h
      · rename_i hnil
        cases h
        have e0 : es = #[] := Array.toList_inj.1 hnil
        subst e0
        have e1 : es' = #[] := Array.eq_empty_of_size_eq_zero (by simpa using hsz.symm)
        subst e1
        have hown : w.ownsMap Tryz.prog 3 (fun _ => some ((.nil : DataW Unit), [])) gr.blk 0 (.map []) :=
          ⟨#[], _, hw, ⟨Nat.zero_le _, ⟨by simp, by simp, by simp⟩, by simp⟩, Nat.le_refl _, rfl⟩
        refine (sorted_any f g.blk gr.blk 0 (.map []) _ w hf3 hBm hv0 hown (Nat.zero_le _) (by simp [Maps.size])).mono ?_
        rintro e w1 ⟨v, ss, rfl, hp, hrow, hn, hb⟩
        have e2 : ss = [] := List.perm_nil.1 hp
        refine ⟨v, ρ, rfl, Out.of_below hb hR hwf, ?_⟩
        rw [hn.2 e2]; exact .slNil 0 0
      · rename_i e hone
        split at h
        rotate_left 1
        · cases h
        rename_i n hkey
        split at h
        rotate_left 1
        · cases h
        rename_i hbd
        obtain ⟨⟨hlo, hhi⟩, hborn⟩ := hbd
        cases h
        have e0 : es = #[e] := Array.toList_inj.1 hone
        subst e0
        obtain ⟨e', he1, he2, he3, _⟩ := hent 0 e rfl
        have e1 : es' = #[e'] := by
          apply Array.ext (by simpa using hsz.symm)
          intro i hi hi2
          have : i = 0 := by simp at hi2; omega
          subst this
          obtain ⟨_, h3⟩ := Array.getElem?_eq_some_iff.1 he1
          simpa using h3
        subst e1
        rw [hkey] at he3
        have hk' : e'.key = .int .i64 n := by
          generalize e'.key = q at he3
          cases he3; rfl
        have hrd : Go.WideElems.rd P0 3 (fun _ => some ((.nil : DataW Unit), [])) e' = some (.int .i64 n, .nil) := by
          unfold Go.WideElems.rd keyOf
          rw [Tryz.underlying3, hk']
          have hw' : (Lit.int .i64 n).wf = true := by
            simp only [Lit.wf, IntKind.min, IntKind.max, IntKind.signed, IntKind.bits, Bool.and_eq_true, decide_eq_true_eq, if_true]
            constructor <;> simp <;> omega
          simp [mapKey, Tryz.underlying3, hw']
        have hown : w.ownsMap Tryz.prog 3 (fun _ => some ((.nil : DataW Unit), [])) gr.blk 1 (.map [(.int .i64 n, .nil)]) := by
          refine ⟨#[e'], _, hw, ⟨by unfold maxLen; simp, ⟨?_, by simp, by simp⟩, ?_⟩, Nat.le_refl _, ?_⟩
          · intro x hx; simp at hx; subst hx; omega
          · intro x hx; simp at hx; subst hx; exact ⟨_, hrd⟩
          · simp [Go.WideElems.rg, hrd, DataW.insert]
        refine (sorted_any f g.blk gr.blk 1 (.map [(.int .i64 n, .nil)]) _ w hf3 hBm hv0 hown (by unfold maxLen; simp [Maps.size]) (by simp [Maps.size])).mono ?_
        rintro en w1 ⟨v, ss, rfl, hp, hrow, hn, hb⟩
        have e2 : ss = [n] := List.perm_singleton.1 hp
        subst e2
        rcases hrow.2 with ⟨rfl, hz⟩ | ⟨gb, cap, cur, rfl, hbase, hgb, r1, r2, r3, r4⟩
        · simp at hz
        · have hN' : s.next + 1 ≤ N := hN
          have hcur : cur[0]? = some (.int .i64 n) := by
            have : (cur.toList.take 1) = [.int .i64 n] := by simpa using r4
            rw [← Array.getElem?_toList]
            cases hl : cur.toList with
            | nil => rw [hl] at this; simp at this
            | cons x xs => rw [hl] at this; simp at this; simp [this]
          have hc1 : 1 ≤ cur.size := by obtain ⟨h3, _⟩ := Array.getElem?_eq_some_iff.1 hcur; omega
          refine ⟨_, _, rfl, Out.of_below_row (g := ⟨gb, 1, cur.size, 3⟩) (o := .cells #[.int .i64 n] 3 (0, 0)) hb hR hwf (by omega) (hfree _ (Nat.le_refl _) (by omega)) hbase hgb ?_, ?_⟩
          · refine ⟨rfl, rfl, rfl, rfl, rfl, hc1, fun i _ h => by omega, fun i v hv => ?_⟩
            cases i with
            | zero => simp at hv; subst hv; exact ⟨_, hcur, .int _ _⟩
            | succ i => simp at hv
          · refine .sl ⟨s.next, 0, none⟩ ⟨gb, 1, cur.size, 3⟩ 1 1 0 cap (by simp) rfl (fun _ => rfl) (.inr ⟨r1, ?_, ?_⟩)
            · rw [cellsOf3]
            · rw [cellsOf3]; show 0 + cap * 1 ≤ cur.size; omega
      · cases h
    · rename_i heq _; cases heq
    · rename_i heq _; cases heq
    · simp [isDead] at hor
end Go.Proofs.YtkandjlcimggkaaGreatDoor
