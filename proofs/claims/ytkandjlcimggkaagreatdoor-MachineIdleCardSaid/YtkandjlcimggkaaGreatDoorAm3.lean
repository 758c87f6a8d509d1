import Derived.Test.YtkandjlcimggkaaGreatDoorAm2
namespace Go.Am
variable {P : Program}

theorem cloneC_spec {ρ : Ren} {s s1 : St} {w : World} {N : Nat} {as as' : Array Value} {v : Value} (hR : R P ρ s w) (hw : WF s) (h : cloneC as s = some (v, s1)) (ha : VRs P ρ as as')
    (hN : s1.next ≤ N) (hl : N ≤ lim) (hfree : ∀ b, s.next ≤ b → b < N → ρ b = none) :
    ∃ v' w1 ρ1, (Extern.MapsClone.clone as').run P w = .ok v' w1 ∧ Out P ρ s w ρ1 s1 w1 ∧ VR P ρ1 v v' := by
  unfold cloneC at h
  split at h
  · rename_i t r hl1
    split at h
    · rename_i es clock hs; cases h
      have h0 : as[0]? = some (.iface t (.map (some r))) := by rw [← Array.getElem?_toList, hl1]; rfl
      obtain ⟨v', h1, h2⟩ := ha.get h0
      cases h2 with
      | iface _ _ v1 hv =>
        cases hv with
        | map r g hg =>
          obtain ⟨es', h3, her⟩ := map_of hR hg hs
          have has : as' = #[.iface t (.map (some g.blk))] := by
            have hsz : as'.size = 1 := by rw [← ha.size, ← Array.length_toList, hl1]; rfl
            refine Array.ext (by simpa using hsz) fun i q1 q2 => ?_
            have hi : i = 0 := by omega
            subst hi
            have : as'[0]? = some as'[0] := by simp [q1]
            rw [this] at h1
            simpa using h1
          subst has
          refine ⟨_, _, _, ?_, out_new (n := 0) (m := 0) (e := 0) (o' := .map es' clock) hR hw hN hl hfree rfl ⟨rfl, her.size, her.at_⟩, .iface _ _ _ (.map s.next ⟨w.heap.size, 0, 0, 0⟩ (by simp))⟩
          show Sem.run P (getObj g.blk >>= fun x => match x with
            | .map entries clock => newObj (.map entries clock) >>= fun r => Pure.pure (Value.iface t (.map (some r)))
            | _ => stuck "maps.clone: a map expected") w = _
          rw [run_getObjA h3 (by intros; simp)]; rfl
    · cases h
  · cases h

theorem VRs.self {ρ : Ren} {a : Array Value} (h : ∀ v ∈ a.toList, ∃ n, addrFree n v = true) : VRs P ρ a a :=
  ⟨rfl, fun i h1 _ => by
    obtain ⟨n, hn⟩ := h a[i] (Array.mem_toList_iff.2 (Array.getElem_mem _))
    exact VR.of_free n _ hn⟩

theorem Out.congr {ρ ρ1 : Ren} {s s1 : St} {w w1 w2 : World} (h : Out P ρ s w ρ1 s1 w1) (hh : w2.heap = w1.heap) (h1 : w2.os = w1.os) (h2 : w2.output = w1.output) (h3 : w2.tape = w1.tape) :
    Out P ρ s w ρ1 s1 w2 where
  le := h.le
  r := ⟨fun b g hb => hh ▸ h.r.lt b g hb, h.r.inj, fun b g o hb ho => hh ▸ h.r.obj b g o hb ho⟩
  new := h.new
  frame := fun k hk hn => hh ▸ h.frame k hk hn
  size := hh ▸ h.size
  next := h.next
  wf := h.wf
  old := h.old
  os := h1.trans h.os
  out := h2.trans h.out
  tape := h3.trans h.tape

theorem strBytes_spec {ρ : Ren} {s : St} {w : World} {N : Nat} {e : TypeId} {t : ByteArray} (hR : R P ρ s w) (hw : WF s) (hN : s.next + 1 ≤ N) (hl : N ≤ lim) (hfree : ∀ b, s.next ≤ b → b < N → ρ b = none)
    (h1 : P.cellsOf e = 1) :
    ∃ v' w1 ρ1, (Conv.stringToBytes e t).run P w = .ok v' w1 ∧ Out P ρ s w ρ1 (strBytesC e t s).2 w1 ∧ VR P ρ1 (strBytesC e t s).1 v' := by
  obtain ⟨c, hc, hrun⟩ : ∃ c, t.size ≤ c ∧ (Conv.stringToBytes e t).run P w = .ok (.slice (some ⟨w.heap.size, 0, none⟩) t.size c)
      (({ w with drawn := w.drawn + 1, heap := w.heap.push (.cells ((t.data.map fun b => (Value.int .u8 b.toNat)) ++ Array.replicate (c - t.size) (.int .u8 0)) e (0, 0)) } : World).freeze ⟨w.heap.size, c, none⟩ 1) := by
    refine ⟨(Question.appendCap t.size 0 e).cut (w.tape w.drawn (.appendCap t.size 0 e)), by simp [Question.cut], ?_⟩
    generalize hq : (Question.appendCap t.size 0 e).cut (w.tape w.drawn (.appendCap t.size 0 e)) = c
    have hc : t.size ≤ c := by rw [← hq]; simp [Question.cut]
    unfold Conv.stringToBytes
    rw [run_bindA]
    have h0 : (choose (.appendCap t.size 0 e)).run P w = .ok c { w with drawn := w.drawn + 1 } := by
      unfold choose; simp only [Sem.run, Question.forced, Bool.false_eq_true, if_false, hq]
    rw [h0]
    simp only
    rw [run_bindA]
    have h2 : ∀ (x : Array Value) (w : World), (newRow e x).run P w = .ok ⟨w.heap.size, 0, none⟩ { w with heap := w.heap.push (.cells x e (0, 0)) } := fun _ _ => rfl
    rw [h2]
    simp only
    rw [run_bindA]
    have hsz : ((t.data.map fun b => (Value.int .u8 b.toNat)) ++ Array.replicate (c - t.size) (Value.int .u8 0)).size = c := by
      rw [Array.size_append, Array.size_map, Array.size_replicate]; show t.size + (c - t.size) = c; omega
    have h3 : ∀ (w1 : World) (x : Array Value), w1.heap[w.heap.size]? = some (.cells x e (0, 0)) → x.size = c → (markStringish ⟨w.heap.size, 0, none⟩).run P w1 = .ok () (w1.freeze ⟨w.heap.size, c, none⟩ 1) := by
      intro w1 x hx hxs
      unfold markStringish shape
      simp only [run_bindA, Sem.run, World.shape?, hx, hxs]
      rfl
    rw [h3 _ _ (by simp) hsz]
    rfl
  have hsz : ((t.data.map fun b => (Value.int .u8 b.toNat)) ++ Array.replicate (c - t.size) (Value.int .u8 0)).size = c := by
    rw [Array.size_append, Array.size_map, Array.size_replicate]; show t.size + (c - t.size) = c; omega
  refine ⟨_, _, fun b => if b = s.next then some ⟨w.heap.size, t.size, c, e⟩ else ρ b, hrun, ?_, ?_⟩
  · refine Out.congr (w1 := { w with heap := w.heap.push (.cells ((t.data.map fun b => (Value.int .u8 b.toNat)) ++ Array.replicate (c - t.size) (.int .u8 0)) e (c, c + 1)) }) ?_ ?_ ?_ ?_ ?_
    · refine Out.of_push hR hw (by omega) (hfree _ (Nat.le_refl _) (by omega)) rfl rfl ?_
      refine ⟨rfl, rfl, rfl, by rw [Array.size_map]; rfl, hsz, by rw [hsz, Array.size_map]; exact hc, fun i hi => by rw [hsz] at hi; simp; omega, fun i v hv => ?_⟩
      have hi : i < (t.data.map fun b => (Value.int .u8 (b.toNat : Int))).size := by
        rcases Nat.lt_or_ge i (t.data.map fun b => (Value.int .u8 (b.toNat : Int))).size with h | h
        · exact h
        · rw [Array.getElem?_eq_none h] at hv; cases hv
      refine ⟨v, by rw [Array.getElem?_append, if_pos hi]; exact hv, ?_⟩
      rw [Array.getElem?_map] at hv
      cases hb : t.data[i]? with
      | none => rw [hb] at hv; cases hv
      | some x => rw [hb] at hv; cases hv; exact .int _ _
    · simp only [World.freeze]
      rw [if_neg (by decide)]
      refine Array.ext_getElem? fun i => ?_
      simp only [Array.getElem?_modify, Array.getElem?_push]
      by_cases h1 : i = w.heap.size
      · subst h1; simp
      · rw [if_neg h1, if_neg (fun h => h1 h.symm), if_neg h1]
    · simp only [World.freeze]; rw [if_neg (by decide)]
    · simp only [World.freeze]; rw [if_neg (by decide)]
    · simp only [World.freeze]; rw [if_neg (by decide)]
  · refine .sl ⟨s.next, 0, none⟩ ⟨w.heap.size, t.size, c, e⟩ _ _ _ _ (by simp) rfl (fun _ => rfl) ?_
    rw [h1]
    exact .inr ⟨hc, by simp, by simp⟩

theorem lenC_spec {ρ : Ren} {s : St} {w : World} {ts : Array TypeId} {t : TypeId} {as as' : Array Value} {v : Value} (hR : R P ρ s w) (h : lenC P ts as s = some v) (ha : VRs P ρ as as') :
    ∃ v', (Builtin.len_ ts t as').run P w = .ok v' w ∧ VR P ρ v v' := by
  unfold lenC at h
  split at h
  · rename_i t0 x ht hx0
    obtain ⟨x', hx1, hx⟩ := ha.get hx0
    unfold Builtin.len_
    simp only [ht, hx1]
    split at h
    · rename_i b hd; cases h
      cases hx
      exact ⟨_, by rw [run_undA hd]; rfl, .int .i64 _⟩
    · rename_i e a n c hd; cases h
      cases hx with
      | slNil => exact ⟨_, by rw [run_undA hd]; rfl, .int .i64 _⟩
      | sl => exact ⟨_, by rw [run_undA hd]; rfl, .int .i64 _⟩
    · rename_i n e hd; cases h
      exact ⟨goInt n, by rw [run_undA hd]; rfl, .int .i64 _⟩
    · rename_i k e hd
      simp only [Option.map_eq_some_iff] at h
      obtain ⟨es, hes, rfl⟩ := h
      rcases entries_of hR hx hes with ⟨rfl, rfl⟩ | ⟨r, es', c, rfl, h1, h2⟩
      · exact ⟨goInt 0, by rw [run_undA hd]; rfl, .int .i64 _⟩
      · refine ⟨goInt es'.size, ?_, by rw [h2.size]; exact .int .i64 _⟩
        rw [run_undA hd]
        simp only
        rw [run_getObjA h1 (by intros; simp)]; rfl
    · cases h
  · cases h

theorem cells_of {ρ : Ren} {s : St} {w : World} (hR : R P ρ s w) {b : Nat} {g : G} (hg : ρ b = some g) {c : Array Value} {e : TypeId} {f : Nat × Nat} (h : s.get b = some (.cells c e f)) :
    ∃ c' f', w.heap[g.blk]? = some (.cells c' e f') ∧ f = (0, 0) ∧ g.e = e ∧ c.size = g.n ∧ c'.size = g.m ∧ c.size ≤ c'.size ∧
      (∀ i, i < c'.size → ¬ (f'.1 ≤ i ∧ i < f'.2)) ∧ ∀ (i : Nat) (v : Value), c[i]? = some v → ∃ v' : Value, c'[i]? = some v' ∧ VR P ρ v v' := by
  have ho := hR.obj b g _ hg h
  unfold OR at ho
  split at ho
  · rename_i heq1 heq2; cases heq1
    obtain ⟨h0, h1, h2⟩ := ho
    subst h1
    exact ⟨_, _, heq2, h0, h2⟩
  · rename_i heq _; cases heq
  · rename_i heq _; cases heq
  · rename_i heq _; cases heq
  · simp [isDead] at ho

theorem capC_spec {ρ : Ren} {s : St} {w : World} {ts : Array TypeId} {t : TypeId} {as as' : Array Value} {v : Value} (hR : R P ρ s w) (h : capC P ts as s = some v) (ha : VRs P ρ as as') :
    ∃ v', (Builtin.cap_ ts t as').run P w = .ok v' w ∧ VR P ρ v v' := by
  unfold capC at h
  split at h
  · rename_i t0 base l n ht hx0
    obtain ⟨x', hx1, hx⟩ := ha.get hx0
    unfold Builtin.cap_
    simp only [ht, hx1]
    split at h
    · rename_i e hd; cases h
      cases hx
      exact ⟨_, by rw [run_undA hd]; rfl, .int .i64 _⟩
    · rename_i e a hd
      split at h
      · rename_i c e' f hs
        split at h
        · rename_i hlt; cases h
          cases hx with
          | sl a g l c0 o c' hg hsp ho hc =>
            obtain ⟨c1, f1, _, _, he, hn, _⟩ := cells_of hR hg hs
            have : c' = n := by
              rcases hc with hc | ⟨_, hc, _⟩
              · exact hc
              · rw [he] at hc; omega
            subst this
            exact ⟨_, by rw [run_undA hd]; rfl, .int .i64 _⟩
        · cases h
      · cases h
    · cases h
  · cases h

theorem sliceBound_run {k : IntKind} {n : Int} {y : Nat} {c : BoundsCode} (h : 0 ≤ n ∧ n ≤ (y : Int)) {α : Type} (f : Nat → Sem α) (w : World) :
    (Instr.sliceBound (.int k n) y c >>= f).run P w = (f n.toNat).run P w := by
  rw [run_bindA]
  have : (Instr.sliceBound (.int k n) y c).run P w = .ok n.toNat w := by
    unfold Instr.sliceBound asIntOf
    simp only [pure_bind, if_pos h]; rfl
  rw [this]

/-- optional operands -/
def OR2 (P : Program) (ρ : Ren) : Option Value → Option Value → Prop
  | none, none => True
  | some v, some v' => VR P ρ v v'
  | _, _ => False

theorem within_run {ρ : Ren} {n y : Nat} {v v' : Value} {k : Nat} (h : within n v = some k) (hv : VR P ρ v v') (hy : n ≤ y) (c : BoundsCode) {α : Type} (f : Nat → Sem α) (w : World) :
    (Instr.sliceBound v' y c >>= f).run P w = (f k).run P w ∧ k ≤ n := by
  unfold within at h
  split at h
  · split at h
    · rename_i hb; cases h
      cases hv
      exact ⟨sliceBound_run (by omega) f w, by omega⟩
    · cases h
  · cases h

theorem boundsC_spec {ρ : Ren} {len cap cap' : Nat} {lo lo' hi hi' mx mx' : Option Value} {l h m : Nat} (hb : boundsC len cap lo hi mx = some (l, h, m)) (hc : cap ≤ cap')
    (hlo : OR2 P ρ lo lo') (hhi : OR2 P ρ hi hi') (hmx : OR2 P ρ mx mx') :
    ∃ m', (∀ w, (Instr.sliceBounds true len cap' lo' hi' mx').run P w = .ok (l, h, m') w) ∧ (mx.isSome = true ∧ m' = m ∧ m ≤ cap ∨ mx = none ∧ m' = cap' ∧ m = cap) ∧ l ≤ h := by
  unfold boundsC at hb
  simp only [Option.bind_eq_some_iff, Option.map_eq_some_iff, Prod.mk.injEq] at hb
  obtain ⟨m1, hm, h1, hh, l1, hl, rfl, rfl, rfl⟩ := hb
  -- the end
  have e1 : ∃ m', m1 ≤ m' ∧ (mx.isSome = true ∧ m' = m1 ∧ m1 ≤ cap ∨ mx = none ∧ m' = cap' ∧ m1 = cap) ∧
      ∀ {α : Type} (f : Nat → Sem α) (w : World), ((match (generalizing := false) mx' with
        | some v => Instr.sliceBound v cap' .slice3Acap
        | none => Pure.pure cap') >>= f).run P w = (f m').run P w := by
    cases mx with
    | none =>
      cases mx' with
      | none => cases hm; exact ⟨cap', hc, .inr ⟨rfl, rfl, rfl⟩, fun f w => rfl⟩
      | some _ => exact hmx.elim
    | some v =>
      cases mx' with
      | none => exact hmx.elim
      | some v' => exact ⟨m1, Nat.le_refl _, .inl ⟨rfl, rfl, (within_run (P := P) hm hmx hc .slice3Acap (fun n => Pure.pure n) default).2⟩, fun f w => (within_run hm hmx hc _ f w).1⟩
  obtain ⟨m', hmm, h2, h3⟩ := e1
  have e2 : ∀ {α : Type} (f : Nat → Sem α) (w : World), ((match (generalizing := false) hi', mx' with
        | some v, some _ => Instr.sliceBound v m' .slice3B
        | some v, none => Instr.sliceBound v m' .sliceAcap
        | none, none => Pure.pure len
        | none, some _ => stuck "Slice: max without high") >>= f).run P w = (f h1).run P w := by
    intro α f w
    cases hi with
    | none =>
      cases hi' with
      | some _ => exact hhi.elim
      | none =>
        cases mx with
        | none =>
          cases mx' with
          | none => simp only [highC, Option.isSome_none, Bool.false_eq_true, if_false, Option.some.injEq] at hh; subst hh; rfl
          | some _ => exact hmx.elim
        | some v => simp [highC] at hh
    | some v =>
      cases hi' with
      | none => exact hhi.elim
      | some v' =>
        cases mx' with
        | none => exact (within_run hh hhi hmm _ f w).1
        | some _ => exact (within_run hh hhi hmm _ f w).1
  have e3 : (∀ {α : Type} (f : Nat → Sem α) (w : World), ((match (generalizing := false) lo' with
        | some v => Instr.sliceBound v h1 (if mx'.isSome then .slice3C else .sliceB)
        | none => Pure.pure 0) >>= f).run P w = (f l1).run P w) ∧ l1 ≤ h1 := by
    cases lo with
    | none =>
      cases lo' with
      | some _ => exact hlo.elim
      | none => cases hl; exact ⟨fun f w => rfl, Nat.zero_le _⟩
    | some v =>
      cases lo' with
      | none => exact hlo.elim
      | some v' => exact ⟨fun f w => (within_run hl hlo (Nat.le_refl _) _ f w).1, (within_run (P := P) hl hlo (Nat.le_refl _) .sliceB (fun n => Pure.pure n) default).2⟩
  refine ⟨m', fun w => ?_, h2, e3.2⟩
  have hs : Instr.sliceBounds true len cap' lo' hi' mx' = ((match (generalizing := false) mx' with
        | some v => Instr.sliceBound v cap' .slice3Acap
        | none => Pure.pure cap') >>= fun m => (match (generalizing := false) hi', mx' with
        | some v, some _ => Instr.sliceBound v m .slice3B
        | some v, none => Instr.sliceBound v m .sliceAcap
        | none, none => Pure.pure len
        | none, some _ => stuck "Slice: max without high") >>= fun h => (match (generalizing := false) lo' with
        | some v => Instr.sliceBound v h (if mx'.isSome then .slice3C else .sliceB)
        | none => Pure.pure 0) >>= fun l => Pure.pure (l, h, m)) := by
    cases lo' <;> cases hi' <;> cases mx' <;> rfl
  rw [hs]
  refine (h3 _ _).trans ?_
  refine (e2 _ _).trans ?_
  exact (e3.1 _ _).trans rfl

theorem sliceC_spec {ρ : Ren} {s : St} {w : World} {t : TypeId} {x x' : Value} {lo lo' hi hi' mx mx' : Option Value} {v : Value} (hR : R P ρ s w) (h : sliceC P t x lo hi mx s = some v) (hx : VR P ρ x x')
    (hlo : OR2 P ρ lo lo') (hhi : OR2 P ρ hi hi') (hmx : OR2 P ρ mx mx') : ∃ v', (Instr.sliceAt t x' lo' hi' mx').run P w = .ok v' w ∧ VR P ρ v v' := by
  unfold sliceC at h
  split at h
  · rename_i elem a len cap hd
    split at h
    · rename_i l hh m i hb hi0
      split at h
      · rename_i hhm
        have run : ∀ (a' : Option Addr) (cap' m' : Nat), (∀ w, (Instr.sliceBounds true len cap' lo' hi' mx').run P w = .ok (l, hh, m') w) →
            (Instr.sliceAt t (.slice a' len cap') lo' hi' mx').run P w = .ok (.slice (if m' = l then a' else a'.map (·.add (l * i.size))) (hh - l) (m' - l)) w := by
          intro a' cap' m' hr
          unfold Instr.sliceAt
          rw [run_undA hd]
          simp only
          unfold Instr.slice
          rw [run_undA hd]
          simp only
          rw [run_bindA, hr]
          simp only
          rw [run_sizeA hi0]; rfl
        cases a with
        | none =>
          cases h
          cases hx
          obtain ⟨m', h1, h2, h3⟩ := boundsC_spec hb (Nat.le_refl _) hlo hhi hmx
          have : m' = m := by rcases h2 with ⟨_, h2, _⟩ | ⟨_, h2, h4⟩ <;> omega
          subst this
          refine ⟨_, run none cap m' h1, ?_⟩
          have : (if m' = l then (none : Option Addr) else none) = none := by split <;> rfl
          rw [Option.map_none, this]
          exact .slNil _ _
        | some a =>
          simp only at h
          split at h
          · rename_i c0 e0 f0 hs
            split at h
            · rename_i hsz; cases h
              have hsz' : P.cellsOf e0 = i.size := by simpa using hsz
              cases hx with
              | sl a g _ _ off' cap' hg hsp ho hc =>
                obtain ⟨_, _, _, _, he, hn, _⟩ := cells_of hR hg hs
                have hcc : cap ≤ cap' := by rcases hc with hc | ⟨hc, _⟩ <;> omega
                obtain ⟨m', h1, h2, h3⟩ := boundsC_spec hb hcc hlo hhi hmx
                refine ⟨_, run _ cap' m' h1, ?_⟩
                have hmc : m ≤ cap := by rcases h2 with ⟨_, _, h2⟩ | ⟨_, _, h2⟩ <;> omega
                have hmm : m ≤ m' := by rcases h2 with ⟨_, h2, _⟩ | ⟨_, h2, h4⟩ <;> omega
                rw [he, hsz'] at hc
                by_cases hml : m' = l
                · rw [if_pos hml]
                  have e1 : m' - l = 0 := by omega
                  have e2 : m - l = 0 := by omega
                  have e3 : hh - l = 0 := by omega
                  rw [e1, e2, e3]
                  exact .sl (moved a (l * i.size)) g 0 0 off' 0 hg rfl (by intro h; omega) (.inl rfl)
                · rw [if_neg hml]
                  have hadd : Option.map (fun x => Addr.add x (l * i.size)) (some (⟨g.blk, off', none⟩ : Addr)) = some ⟨g.blk, off' + l * i.size, none⟩ := by
                    simp only [Option.map_some, Addr.add]
                    split
                    · rename_i h0; rw [h0]; rfl
                    · rfl
                  rw [hadd]
                  refine .sl (moved a (l * i.size)) g _ _ _ _ hg rfl (fun h4 => ?_) ?_
                  · show off' + l * i.size = a.off + l * i.size
                    have hcond : 0 < cap ∨ 0 < len ∨ cap' ≠ cap := by
                      rcases h2 with ⟨_, h2, h5⟩ | ⟨_, h2, h5⟩
                      · left; omega
                      · rcases h4 with h4 | h4 | h4
                        · left; omega
                        · left; omega
                        · right; right; omega
                    rw [ho hcond]
                  · rcases h2 with ⟨_, h2, _⟩ | ⟨_, h2, h4⟩
                    · exact .inl (by rw [h2])
                    · rcases hc with hc | ⟨_, hc1, hc2⟩
                      · exact .inl (by omega)
                      · refine .inr ⟨by omega, ?_, ?_⟩
                        · show a.off + l * i.size + (m - l) * P.cellsOf g.e = g.n
                          rw [he, hsz', h4, Nat.add_assoc, ← Nat.add_mul, Nat.add_sub_cancel' (by omega)]; exact hc1
                        · show off' + l * i.size + (m' - l) * P.cellsOf g.e ≤ g.m
                          rw [he, hsz', h2, Nat.add_assoc, ← Nat.add_mul, Nat.add_sub_cancel' (by omega)]; exact hc2
            · cases h
          · cases h
      · cases h
    · cases h
  · cases h

end Go.Am

namespace Go.Am
variable {P : Program}

theorem loadCells_zero (a : Addr) : loadCells a 0 = Pure.pure #[] := rfl

theorem sim_firstCells {ρ : Ren} {size n : Nat} {a : Option Addr} {c : Nat} {x' : Value} (hx : VR P ρ (.slice a n c) x') :
    Sim P (Builtin.firstCells size n (.slice a n c)) (Builtin.firstCells size n x') ρ (fun ρ1 => VRs P ρ1) := by
  cases hx with
  | slNil => exact Sim.pure .empty
  | sl a g _ _ off' c' hg hs ho hc =>
    show Sim P (loadCells a (n * size)) (loadCells ⟨g.blk, off', none⟩ (n * size)) ρ _
    cases n with
    | zero => rw [Nat.zero_mul]; exact Sim.pure .empty
    | succ n =>
      have h1 : off' = a.off := ho (.inr (.inl (Nat.succ_pos _)))
      subst h1
      exact sim_loadCells ⟨g, hg, by rw [hs]⟩ _

/-- a reading run leaves memory alone -/
theorem loads_still {a : Addr} : ∀ (n i : Nat) (acc : Array Value) (s s1 : St) (v : Array Value), runC P (loadCellsFrom a i n acc) s = some (v, s1) → s1 = s ∧ v.size = acc.size + n
  | 0, i, acc, s, s1, v, h => by
    have : runC P (loadCellsFrom a i 0 acc) s = some (acc, s) := rfl
    rw [this] at h; cases h; exact ⟨rfl, rfl⟩
  | n + 1, i, acc, s, s1, v, h => by
    unfold loadCellsFrom at h
    rw [runC_bind] at h
    cases hl : runC P (load (a.add i)) s with
    | none => rw [hl] at h; cases h
    | some p =>
      obtain ⟨x, s2⟩ := p
      have h2 : s2 = s := by
        unfold load at hl; simp only [runC] at hl
        cases hc : s.cell (a.add i) with
        | none => rw [hc] at hl; cases hl
        | some y => rw [hc] at hl; cases hl; rfl
      subst h2
      rw [hl] at h
      obtain ⟨h3, h4⟩ := loads_still n (i + 1) (acc.push x) s2 s1 v h
      exact ⟨h3, by rw [h4, Array.size_push]; omega⟩

theorem firstCells_still {size n : Nat} {a : Option Addr} {l c : Nat} {s s1 : St} {v : Array Value} (h : runC P (Builtin.firstCells size n (.slice a l c)) s = some (v, s1)) : s1 = s ∧ (v.size = n * size ∨ a = none ∧ v = #[]) := by
  cases a with
  | none => 
    have : runC P (Builtin.firstCells size n (.slice none l c)) s = some (#[], s) := rfl
    rw [this] at h; cases h; exact ⟨rfl, .inr ⟨rfl, rfl⟩⟩
  | some a =>
    obtain ⟨h1, h2⟩ := loads_still (n * size) 0 #[] s s1 v h
    exact ⟨h1, .inl (by simpa using h2)⟩

/-- what the true run of a reading gives, at an unchanged world -/
theorem loads_stillA {a : Addr} : ∀ (n i : Nat) (acc : Array Value) (w w1 : World) (v : Array Value), (loadCellsFrom a i n acc).run P w = .ok v w1 → w1 = w
  | 0, i, acc, w, w1, v, h => by
    have : (loadCellsFrom a i 0 acc).run P w = .ok acc w := rfl
    rw [this] at h; cases h; rfl
  | n + 1, i, acc, w, w1, v, h => by
    unfold loadCellsFrom at h
    rw [run_bindA] at h
    have hl : ∀ x w2, (load (a.add i)).run P w = .ok x w2 → w2 = w := by
      intro x w2 hx
      unfold load at hx; simp only [Sem.run] at hx
      split at hx
      · cases hx; rfl
      · split at hx
        · cases hx; rfl
        · cases hx
    cases hr : (load (a.add i)).run P w with
    | ok x w2 =>
      rw [hr] at h
      have := hl x w2 hr
      subst this
      exact loads_stillA n (i + 1) _ w2 w1 v h
    | halt => rw [hr] at h; cases h

theorem firstCells_stillA {size n : Nat} {x : Value} {w w1 : World} {v : Array Value} (h : (Builtin.firstCells size n x).run P w = .ok v w1) (hx : ∃ a l c, x = .slice a l c) : w1 = w := by
  obtain ⟨a, l, c, rfl⟩ := hx
  cases a with
  | none =>
    have : (Builtin.firstCells size n (.slice none l c)).run P w = .ok #[] w := rfl
    rw [this] at h; cases h; rfl
  | some a => exact loads_stillA _ _ _ _ _ _ h

/-- the true side of a reading of a slice's first cells -/
theorem firstCells_rel {ρ : Ren} {size n : Nat} {a : Option Addr} {c : Nat} {x' : Value} {s s1 : St} {w : World} {v : Array Value} (hR : R P ρ s w) (hw : WF s) (hx : VR P ρ (.slice a n c) x')
    (h : runC P (Builtin.firstCells size n (.slice a n c)) s = some (v, s1)) : ∃ v', (Builtin.firstCells size n x').run P w = .ok v' w ∧ VRs P ρ v v' := by
  obtain ⟨rfl, _⟩ := firstCells_still h
  -- no new names are asked for
  have hN : ∃ N, s1.next ≤ N ∧ N ≤ lim ∧ ∀ b, s1.next ≤ b → b < N → ρ b = none := ⟨s1.next, Nat.le_refl _, hw.le, fun b h1 h2 => by omega⟩
  obtain ⟨N, h1, h2, h3⟩ := hN
  obtain ⟨v', w1, ρ1, e, o, p⟩ := sim_firstCells (size := size) hx s1 w v s1 N h hR hw h1 h2 h3
  have hw1 : w1 = w := firstCells_stillA e (by cases hx <;> exact ⟨_, _, _, rfl⟩)
  subst hw1
  refine ⟨v', e, ⟨p.size, fun i q1 q2 => ?_⟩⟩
  -- the names are the old ones
  have hle : Le ρ1 ρ := fun b g hb => by
    cases hc : ρ b with
    | none => obtain ⟨h4, h5, _⟩ := o.new b g hb hc; omega
    | some g0 => have := o.le b g0 hc; rw [hb] at this; exact this.symm
  exact (p.at_ i q1 q2).mono hle

theorem zeroCells_size (z : Array Value) (n : Nat) : (Builtin.zeroCells z n).size = n * z.size := by simp [Builtin.zeroCells]

theorem nextslicecap_le (need cap : Nat) (h : cap < need) : Builtin.nextslicecap need cap ≤ 2 * need + 1000 := by
  unfold Builtin.nextslicecap
  split
  · omega
  · split
    · omega
    · have : ∀ (r c : Nat), c < need → Builtin.growBy need r c ≤ need + (need + 768) / 4 := by
        intro r
        induction r with
        | zero => intro c hc; simp only [Builtin.growBy]; omega
        | succ r ih =>
          intro c hc
          simp only [Builtin.growBy]
          split
          · omega
          · rcases Nat.lt_or_ge (c + (c + 768) / 4) need with h1 | h1
            · exact ih _ h1
            · cases r with
              | zero => simp only [Builtin.growBy]; omega
              | succ r => simp only [Builtin.growBy]; rw [if_pos h1]; omega
      have := this 4 cap h
      omega

end Go.Am

namespace Go.Am
variable {P : Program}

section
variable {ts : Array TypeId} {t sT xT elem : TypeId} {as : Array Value} {ei : TypeInfo} {xd : TypeDesc} {base : Option Addr} {sLen cap n : Nat} {x : Value} {new old : Array Value} {w : World}

theorem append_room (h0 : ts[0]? = some sT) (h1 : ts[1]? = some xT) (h2 : P.underlying sT = some (.slice elem)) (h3 : P.underlying xT = some xd) (h4 : isIntD xd = false)
    (h5 : P.info? elem = some ei) (a0 : as[0]? = some (.slice base sLen cap)) (a1 : as[1]? = some x) (hx : ∃ b c, x = .slice b n c) (hnew : (Builtin.firstCells ei.size n x).run P w = .ok new w) (hroom : sLen + n ≤ cap) :
    (Builtin.append_ ts t as).run P w = match base with
      | some a => (storeCells (a.add (sLen * ei.size)) new.toList >>= fun _ => (Pure.pure (.slice base (sLen + n) cap) : Sem Value)).run P w
      | none => .ok (.slice none (sLen + n) cap) w := by
  obtain ⟨b, c, rfl⟩ := hx
  unfold Builtin.append_
  simp only [h0, a0, a1, h1]
  rw [run_undA h2]
  simp only
  rw [run_sizeA h5]
  rw [run_undA h3]
  cases xd
  case int k => cases h4
  all_goals
    simp only [pure_bind, Bool.false_eq_true, if_false, Builtin.lenOf, if_pos hroom, Bool.not_false, if_true]
    rw [run_bindA, hnew]
    cases base with
    | none => rfl
    | some a => rfl

theorem append_grow (h0 : ts[0]? = some sT) (h1 : ts[1]? = some xT) (h2 : P.underlying sT = some (.slice elem)) (h3 : P.underlying xT = some xd) (h4 : isIntD xd = false)
    (h5 : P.info? elem = some ei) {z : Value} (h6 : ei.zero = some z) (h7 : ei.bytes ≠ 0) (h8 : ei.bytes ≤ 2 ^ 16) (h9 : sLen + n ≤ 2 ^ 20)
    (a0 : as[0]? = some (.slice base sLen cap)) (a1 : as[1]? = some x) (hx : ∃ b c, x = .slice b n c)
    (hnew : (Builtin.firstCells ei.size n x).run P { w with drawn := w.drawn + 1 } = .ok new { w with drawn := w.drawn + 1 })
    (hold : (Builtin.firstCells ei.size sLen (.slice base sLen cap)).run P { w with drawn := w.drawn + 1 } = .ok old { w with drawn := w.drawn + 1 })
    (hroom : ¬ sLen + n ≤ cap) :
    ∃ c, sLen + n ≤ c ∧ (Builtin.append_ ts t as).run P w = .ok (.slice (some ⟨w.heap.size, 0, none⟩) (sLen + n) c)
      { w with drawn := w.drawn + 1, heap := w.heap.push (.cells (old ++ new ++ Builtin.zeroCells z.cells (c - (sLen + n))) elem (0, 0)) } := by
  obtain ⟨b, c0, rfl⟩ := hx
  refine ⟨(Question.appendCap (sLen + n) cap elem).cut (w.tape w.drawn (.appendCap (sLen + n) cap elem)), by simp [Question.cut], ?_⟩
  generalize hq : (Question.appendCap (sLen + n) cap elem).cut (w.tape w.drawn (.appendCap (sLen + n) cap elem)) = c
  have hch : (choose (.appendCap (sLen + n) cap elem)).run P w = .ok c { w with drawn := w.drawn + 1 } := by
    unfold choose; simp only [Sem.run, Question.forced, Bool.false_eq_true, if_false, hq]
  have hsc : ¬ Builtin.nextslicecap (sLen + n) cap * ei.bytes > 2 ^ 48 := by
    have h10 := nextslicecap_le (sLen + n) cap (by omega)
    have : Builtin.nextslicecap (sLen + n) cap * ei.bytes ≤ (2 * 2 ^ 20 + 1000) * 2 ^ 16 := Nat.mul_le_mul (by omega) h8
    omega
  have hroomA : ∀ (k : Nat) {α : Type} (f : Unit → Sem α) (w : World), (askRoom k >>= f).run P w = (f ()).run P w := by
    intro k α f w
    unfold askRoom
    split
    · rfl
    · rfl
  unfold Builtin.append_
  simp only [h0, a0, a1, h1]
  rw [run_undA h2]
  simp only
  rw [run_sizeA h5]
  rw [run_undA h3]
  cases xd
  case int k => cases h4
  all_goals
    simp only [pure_bind, Bool.false_eq_true, if_false, Builtin.lenOf, if_neg hroom, Bool.not_false, if_true]
    rw [run_infoA h5]
    simp only [h7, or_self, and_false, if_false]
    rw [run_infoA h5]
    simp only [if_neg hsc]
    rw [run_bindA, hch]
    simp only
    rw [run_infoA h5]
    rw [hroomA, run_bindA, hold]
    simp only
    rw [run_bindA, hnew]
    simp only
    rw [run_zeroA h5 h6]
    rfl
end

/-- the values that a reading gives -/
theorem loads_vals {a : Addr} : ∀ (n i : Nat) (acc : Array Value) (s s1 : St) (v : Array Value), runC P (loadCellsFrom a i n acc) s = some (v, s1) →
    (∀ j, j < acc.size → v[j]? = acc[j]?) ∧ ∀ j, j < n → v[acc.size + j]? = s.cell (a.add (i + j))
  | 0, i, acc, s, s1, v, h => by
    have : runC P (loadCellsFrom a i 0 acc) s = some (acc, s) := rfl
    rw [this] at h; cases h; exact ⟨fun _ _ => rfl, fun j hj => by omega⟩
  | n + 1, i, acc, s, s1, v, h => by
    unfold loadCellsFrom at h
    rw [runC_bind] at h
    cases hc : s.cell (a.add i) with
    | none =>
      have hl : runC P (load (a.add i)) s = none := by unfold load; simp only [runC]; rw [hc]
      rw [hl] at h; cases h
    | some y =>
      have hl : runC P (load (a.add i)) s = some (y, s) := by unfold load; simp only [runC]; rw [hc]
      rw [hl] at h
      obtain ⟨h1, h2⟩ := loads_vals n (i + 1) (acc.push y) s s1 v h
      refine ⟨fun j hj => ?_, fun j hj => ?_⟩
      · rw [h1 j (by rw [Array.size_push]; omega), Array.getElem?_push, if_neg (by omega)]
      · cases j with
        | zero => rw [Nat.add_zero, h1 acc.size (by rw [Array.size_push]; omega), Array.getElem?_push, if_pos rfl, Nat.add_zero, hc]
        | succ j =>
          have := h2 j (by omega)
          rw [Array.size_push] at this
          rw [show acc.size + (j + 1) = acc.size + 1 + j by omega, this, show i + 1 + j = i + (j + 1) by omega]

/-- the true effect of a row of stores -/
theorem stores_run {blk off : Nat} : ∀ (l : List Value) (i : Nat) (w : World) (c : Array Value) (e : TypeId) (f : Nat × Nat), w.heap[blk]? = some (.cells c e f) → off + i + l.length ≤ c.size →
    (∀ j, j < c.size → ¬ (f.1 ≤ j ∧ j < f.2)) → (∀ v ∈ l, isOneCell v = true) →
    ∃ w1 c1, (storeCells ⟨blk, off, none⟩ l i).run P w = .ok () w1 ∧ w1.heap[blk]? = some (.cells c1 e f) ∧ c1.size = c.size ∧
      (∀ j, c1[j]? = if off + i ≤ j ∧ j < off + i + l.length then l[j - (off + i)]? else c[j]?) ∧ (∀ k, k ≠ blk → w1.heap[k]? = w.heap[k]?) ∧ w1.heap.size = w.heap.size ∧ w1.os = w.os ∧ w1.output = w.output ∧ w1.tape = w.tape
  | [], i, w, c, e, f, hc, _, _, _ => ⟨w, c, rfl, hc, rfl, (fun j => by rw [if_neg (fun h => by simp only [List.length_nil] at h; omega)]), fun _ _ => rfl, rfl, rfl, rfl, rfl⟩
  | v :: l, i, w, c, e, f, hc, hl, hf, hv => by
    have ha : (⟨blk, off, none⟩ : Addr).add i = ⟨blk, off + i, none⟩ := by
      unfold Addr.add; split
      · rename_i h; rw [h]; simp
      · rfl
    simp only [List.length_cons] at hl
    have hone : isOneCell v = true := hv v (by simp)
    have hcell : w.cell? ⟨blk, off + i, none⟩ = some (c[off + i]'(by omega)) := by
      unfold World.cell?; simp only [hc]; simp [show off + i < c.size by omega]
    have hfz : w.frozen? ⟨blk, off + i, none⟩ = false := by
      unfold World.frozen?; simp only [hc]
      simpa using hf (off + i) (by omega)
    have hrun : (store ⟨blk, off + i, none⟩ v).run P w = .ok () (w.setCell ⟨blk, off + i, none⟩ v) := by
      unfold store
      cases v <;> simp [isOneCell] at hone <;> simp [Sem.run, hcell, hfz]
    have hheap : (w.setCell ⟨blk, off + i, none⟩ v).heap[blk]? = some (.cells (c.setIfInBounds (off + i) v) e f) := by
      unfold World.setCell; simp only [Array.getElem?_modify, hc]; rfl
    obtain ⟨w1, c1, h1, h2, h3, h4, h5, h6, h7, h8, h9⟩ := stores_run (blk := blk) (off := off) l (i + 1) (w.setCell ⟨blk, off + i, none⟩ v) (c.setIfInBounds (off + i) v) e f hheap (by simp; omega) (by simpa using hf) (fun u hu => hv u (by simp [hu]))
    refine ⟨w1, c1, ?_, h2, by simpa using h3, fun j => ?_, fun k hk => ?_, ?_, h7, h8, h9⟩
    · unfold storeCells
      rw [run_bindA, ha, hrun]; exact h1
    · rw [h4 j]
      simp only [List.length_cons]
      by_cases hj : j = off + i
      · subst hj
        rw [if_neg (by omega), if_pos (by omega), Array.getElem?_setIfInBounds, if_pos rfl, if_pos (by omega)]
        simp
      · by_cases hin : off + (i + 1) ≤ j ∧ j < off + (i + 1) + l.length
        · rw [if_pos hin, if_pos (by omega)]
          have : j - (off + i) = (j - (off + (i + 1))) + 1 := by omega
          rw [this]; rfl
        · rw [if_neg hin, if_neg (by omega), Array.getElem?_setIfInBounds, if_neg (fun h => hj h.symm)]
    · rw [h5 k hk]
      unfold World.setCell; simp only [Array.getElem?_modify, if_neg (fun h : blk = k => hk h.symm)]
    · rw [h6]; unfold World.setCell; simp

/-- append, on both sides -/
theorem appendC_spec {ρ : Ren} {s s1 : St} {w : World} {N : Nat} {ts : Array TypeId} {t : TypeId} {as as' : Array Value} {v : Value} (hR : R P ρ s w) (hw : WF s)
    (h : appendC P ts as s = some (v, s1)) (ha : VRs P ρ as as') (hN : s1.next ≤ N) (hl : N ≤ lim) (hfree : ∀ b, s.next ≤ b → b < N → ρ b = none) :
    ∃ v' w1 ρ1, (Builtin.append_ ts t as').run P w = .ok v' w1 ∧ Out P ρ s w ρ1 s1 w1 ∧ VR P ρ1 v v' := by
  unfold appendC at h
  split at h
  case h_2 => cases h
  rename_i sT xT base sLen sCap x t0 t1 b0 b1
  obtain ⟨b', hb', hb⟩ := ha.get b0
  obtain ⟨x', hx', hx⟩ := ha.get b1
  split at h
  case h_2 => cases h
  rename_i elem xd hsT hxT
  split at h
  case h_2 => cases h
  rename_i ei hei
  split at h
  case isTrue => cases h
  rename_i hxd
  have hxd' : isIntD xd = false := by simpa using hxd
  split at h
  case h_2 => cases h
  rename_i xb n xc
  cases hnew : runC P (Builtin.firstCells ei.size n (.slice xb n xc)) s with
  | none => rw [hnew] at h; cases h
  | some q =>
  obtain ⟨new, s0⟩ := q
  rw [hnew] at h
  obtain ⟨rfl, hnsz⟩ := firstCells_still hnew
  obtain ⟨new', hnew', hnr⟩ := firstCells_rel hR hw hx hnew
  have hxs : ∃ b c, x' = .slice b n c := by cases hx <;> exact ⟨_, _, rfl⟩
  simp only at h
  split at h
  · -- there is room, as it is seen here
    rename_i hroom
    cases base with
    | none =>
      simp only at h
      split at h
      · cases h
        cases hb
        exact ⟨_, w, ρ, append_room t0 t1 hsT hxT hxd' hei hb' hx' hxs hnew' hroom, .refl hR hw, .slNil _ _⟩
      · cases h
    | some a =>
      simp only [Option.map_eq_some_iff] at h
      obtain ⟨⟨u, s2⟩, hst, he⟩ := h
      cases he
      cases hb with
      | sl a g _ _ off' cap' hg hsp ho hc =>
        have hcc : sCap ≤ cap' := by rcases hc with hc | ⟨hc, _⟩ <;> omega
        have hrun := append_room (t := t) t0 t1 hsT hxT hxd' hei hb' hx' hxs hnew' (Nat.le_trans hroom hcc)
        have hnl := hnr.list
        have hres : ∀ ρ1, Le ρ ρ1 → VR P ρ1 (.slice (some a) (sLen + n) sCap) (.slice (some ⟨g.blk, off', none⟩) (sLen + n) cap') := fun ρ1 hle =>
          .sl a g _ _ off' cap' (hle _ _ hg) hsp (fun hh => ho (by rcases hh with hh | hh | hh <;> first | (left; omega) | (right; right; exact hh))) hc
        by_cases hn0 : new.toList = []
        · -- nothing is written
          have hn0' : new'.toList = [] := by
            have := hnl.1; rw [hn0] at this
            exact List.eq_nil_of_length_eq_zero (by simpa using this.symm)
          rw [hn0] at hst
          have e0 : runC P (storeCells (a.add (sLen * ei.size)) []) s0 = some ((), s0) := rfl
          rw [e0] at hst; cases hst
          simp only [hn0'] at hrun
          exact ⟨_, w, ρ, hrun, .refl hR hw, hres ρ (.refl ρ)⟩
        · have hpos : 0 < sCap := by
            rcases hnsz with h1 | ⟨_, h1⟩
            · have : n ≠ 0 := by
                intro h0; rw [h0, Nat.zero_mul] at h1
                exact hn0 (by simpa using Array.eq_empty_of_size_eq_zero h1)
              omega
            · exact absurd (by rw [h1]) hn0
          have hoff := ho (.inl hpos)
          subst hoff
          obtain ⟨u', w1, ρ1, e1, o1, _⟩ := sim_storeCells (P := P) (a := a.add (sLen * ei.size)) (a' := (⟨g.blk, a.off, none⟩ : Addr).add (sLen * ei.size)) new.toList new'.toList 0 ρ
            (AR.add (⟨g, hg, by rw [hsp]⟩ : AR ρ a ⟨g.blk, a.off, none⟩) _) hnl.1 hnl.2 s0 w () s2 N hst hR hw hN hl hfree
          refine ⟨_, w1, ρ1, ?_, o1, hres ρ1 o1.le⟩
          rw [hrun]
          simp only
          rw [run_bindA, e1]
          rfl
  · -- a new row
    rename_i hroom
    split at h
    · cases h
    rename_i hck
    simp only [Bool.or_eq_true, decide_eq_true_eq, not_or, beq_iff_eq, bne_iff_ne, ne_eq, Decidable.not_not] at hck
    obtain ⟨⟨⟨k1, k2⟩, k3⟩, k4⟩ := hck
    obtain ⟨z, hzv, hzs⟩ : ∃ z, ei.zero = some z ∧ z.cells.size = ei.size := by
      cases he : ei.zero with
      | none => rw [he] at k4; simp at k4
      | some z => rw [he] at k4; exact ⟨z, rfl, by simpa using k4⟩
    cases hold : runC P (Builtin.firstCells ei.size sLen (.slice base sLen sCap)) s0 with
    | none => rw [hold] at h; cases h
    | some q =>
    obtain ⟨old, s2⟩ := q
    rw [hold] at h
    obtain ⟨rfl, hosz⟩ := firstCells_still hold
    simp only at h
    split at h
    · cases h
    rename_i hsize
    have hsz : (old ++ new).size = (sLen + n) * ei.size := by simpa using hsize
    have hcell : P.cellsOf elem = ei.size := by unfold Program.cellsOf; rw [hei]; rfl
    have hNl : s2.next + 1 ≤ s1.next := by
      split at h
      · split at h
        · cases h; exact Nat.le_refl _
        · cases h
      · split at h
        · split at h
          · cases h; exact Nat.le_refl _
          · split at h
            · cases h; exact Nat.le_refl _
            · cases h
        · cases h
    -- the row that grows
    have grow : ∀ (s3 : St), s3.next = s2.next → Out P ρ s2 w ρ s3 w → ∀ base' cap', VR P ρ (.slice base sLen sCap) (.slice base' sLen cap') → as'[0]? = some (.slice base' sLen cap') → ¬ sLen + n ≤ cap' →
        ∃ v' w1 ρ1, (Builtin.append_ ts t as').run P w = .ok v' w1 ∧ Out P ρ s2 w ρ1 (s3.push (.cells (old ++ new) elem (0, 0))) w1 ∧
          VR P ρ1 (.slice (some ⟨s2.next, 0, none⟩) (sLen + n) (sLen + n)) v' := by
      intro s3 hs3 o3 base' cap' hbb hb0 hno
      have hRd : R P ρ s2 { w with drawn := w.drawn + 1 } := ⟨hR.lt, hR.inj, hR.obj⟩
      obtain ⟨new1, hnew1, hnr1⟩ := firstCells_rel hRd hw hx hnew
      obtain ⟨old1, hold1, hor1⟩ := firstCells_rel hRd hw hbb hold
      obtain ⟨c, hc1, hrun⟩ := append_grow (t := t) t0 t1 hsT hxT hxd' hei hzv k3 (by omega) (by omega) hb0 hx' hxs hnew1 hold1 hno
      have hrow := hor1.append hnr1
      have hs1 : (old1 ++ new1).size = (sLen + n) * ei.size := hrow.size.symm.trans hsz
      have hs2 : (old1 ++ new1 ++ Builtin.zeroCells z.cells (c - (sLen + n))).size = c * ei.size := by
        rw [Array.size_append, hs1, zeroCells_size, hzs, ← Nat.add_mul, Nat.add_sub_cancel' hc1]
      have hw3 : WF s3 := o3.wf
      have o4 := Out.of_push (P := P) (ρ := ρ) (s := s3) (w := w) (o := .cells (old ++ new) elem (0, 0)) (o' := .cells (old1 ++ new1 ++ Builtin.zeroCells z.cells (c - (sLen + n))) elem (0, 0))
        (g := ⟨w.heap.size, (sLen + n) * ei.size, c * ei.size, elem⟩) o3.r hw3 (by omega) (by rw [hs3]; exact hfree _ (Nat.le_refl _) (by omega)) rfl rfl
        ⟨rfl, rfl, rfl, hsz, hs2, by rw [hs2, hsz]; exact Nat.mul_le_mul_right _ hc1, fun i _ hh => by omega, fun i u hu => by
          have hi : i < (old ++ new).size := by
            rcases Nat.lt_or_ge i (old ++ new).size with h | h
            · exact h
            · rw [Array.getElem?_eq_none h] at hu; cases hu
          obtain ⟨u', hu', hru⟩ := hrow.get hu
          exact ⟨u', by rw [Array.getElem?_append, if_pos (by rw [hs1]; rw [hsz] at hi; exact hi)]; exact hu', hru⟩⟩
      refine ⟨_, _, _, hrun, Out.congr (o3.trans o4 fun b hb hb1 => ?_) rfl rfl rfl rfl, ?_⟩
      · rw [hs3] at hb1; omega
      · refine .sl ⟨s2.next, 0, none⟩ ⟨w.heap.size, (sLen + n) * ei.size, c * ei.size, elem⟩ _ _ 0 c (by rw [hs3]; simp) rfl (fun _ => rfl) (.inr ⟨hc1, ?_, ?_⟩)
        · show 0 + (sLen + n) * P.cellsOf elem = (sLen + n) * ei.size
          rw [hcell, Nat.zero_add]
        · show 0 + c * P.cellsOf elem ≤ c * ei.size
          rw [hcell]; omega
    cases base with
    | none =>
      simp only at h
      split at h
      · rename_i h0; cases h
        cases hb
        exact grow s2 rfl (.refl hR hw) none sCap (.slNil _ _) hb' hroom
      · cases h
    | some a =>
      simp only at h
      split at h
      case h_2 => cases h
      rename_i c0 e0 f0 hs0
      cases hb with
      | sl a g _ _ off' cap' hg hsp ho hc =>
        obtain ⟨ca, fa, hheap, hf0, hge, hgn, hgm, hcle, hfz, hcells⟩ := cells_of hR hg hs0
        split at h
        · rename_i hlt; cases h
          have hcap : cap' = sCap := by
            rcases hc with hc | ⟨_, hc, _⟩
            · exact hc
            · rw [hge] at hc; omega
          subst hcap
          exact grow s2 rfl (.refl hR hw) _ _ (.sl a g _ _ off' cap' hg hsp ho hc) hb' hroom
        · split at h
          case isFalse => cases h
          rename_i hae
          obtain ⟨ha0, hee, hones⟩ := hae
          cases h
          subst hee
          -- the old name is given up
          have hblt := hw.lt hs0
          have odead : Out P ρ s2 w ρ (s2.put a.block dead) w := by
            refine ⟨.refl ρ, ⟨hR.lt, fun b b' g1 g2 o o' q1 q2 q3 q4 d1 d2 hk => ?_, fun b g1 o q1 q2 => ?_⟩, (fun b g1 q1 q2 => by rw [q1] at q2; cases q2), fun _ _ _ => rfl, Nat.le_refl _, Nat.le_refl _, hw.put hblt _, ?_, rfl, rfl, rfl⟩
            · have fix : ∀ y o, (s2.put a.block dead).get y = some o → isDead o = false → s2.get y = some o := by
                intro y o hy hd
                by_cases hya : a.block = y
                · subst hya; rw [St.get_put_same hw hblt] at hy; cases hy; cases hd
                · rw [St.get_put_ne _ hya] at hy; exact hy
              exact hR.inj b b' g1 g2 o o' q1 q2 (fix b o q3 d1) (fix b' o' q4 d2) d1 d2 hk
            · by_cases hya : a.block = b
              · subst hya; rw [St.get_put_same hw hblt] at q2; cases q2; exact .of_dead rfl
              · rw [St.get_put_ne _ hya] at q2; exact hR.obj b g1 o q1 q2
            · intro b o hb1 q1 q2
              by_cases hya : a.block = b
              · subst hya; rw [St.get_put_same hw hblt] at q1; cases q1; cases q2
              · rw [St.get_put_ne _ hya] at q1; exact ⟨o, q1, q2⟩
          by_cases hin : sLen + n ≤ cap'
          · -- in place, in truth
            have hne : cap' ≠ sCap := by omega
            have hoff := ho (.inr (.inr hne))
            subst hoff
            rcases hc with hc | ⟨_, hc1, hc2⟩
            · exact absurd hc hne
            have hrun := append_room (t := t) t0 t1 hsT hxT hxd' hei hb' hx' hxs hnew' hin
            simp only at hrun
            have hadd : (⟨g.blk, a.off, none⟩ : Addr).add (sLen * ei.size) = ⟨g.blk, sLen * ei.size, none⟩ := by
              unfold Addr.add; rw [ha0]; split
              · rename_i h0; rw [h0]
              · simp
            have hns : new.size = n * ei.size := by
              rcases hnsz with q | ⟨q1, q2⟩
              · exact q
              · rw [q2] at hsz ⊢
                have ho1 : old.size = sLen * ei.size := by
                  rcases hosz with q | ⟨q, _⟩
                  · exact q
                  · cases q
                rw [Array.size_append, ho1, Nat.add_mul] at hsz
                exact Nat.add_left_cancel hsz
            have hos : old.size = sLen * ei.size := by
              rcases hosz with q | ⟨q, _⟩
              · exact q
              · cases q
            have hns' : new'.toList.length = n * ei.size := by rw [Array.length_toList, ← hnr.size]; exact hns
            have hge0 : P.cellsOf g.e = ei.size := by rw [hge]; exact hcell
            have hm1 : (sLen + n) * ei.size ≤ g.m := by
              rw [hge0, ha0, Nat.zero_add] at hc2
              exact Nat.le_trans (Nat.mul_le_mul_right _ hin) hc2
            obtain ⟨w1, c1, e1, h2, h3, h4, h5, h6, h7, h8, h9⟩ := stores_run (P := P) (blk := g.blk) (off := sLen * ei.size) new'.toList 0 w ca e0 fa hheap
              (by rw [hns', hgm, Nat.add_zero, ← Nat.add_mul]; exact hm1) hfz (fun u hu => by
                obtain ⟨i, hi⟩ := List.mem_iff_getElem?.1 hu
                have hin2 : i < new.size := by
                  rcases Nat.lt_or_ge i new.size with q | q
                  · exact q
                  · rw [List.getElem?_eq_none (by rw [hns', ← hns]; exact q)] at hi; cases hi
                obtain ⟨u2, q1, q2⟩ := hnr.get (i := i) (v := new[i]) (by simp [hin2])
                have : u2 = u := by
                  have hi' : new'[i]? = some u := by simpa using hi
                  rw [q1] at hi'; exact Option.some.inj hi'
                subst this
                rw [q2.oneCell]
                exact List.all_eq_true.1 hones _ (Array.mem_toList_iff.2 (Array.getElem_mem _)))
            have hrun1 : (Builtin.append_ ts t as').run P w = .ok (.slice (some ⟨g.blk, a.off, none⟩) (sLen + n) cap') w1 := by
              rw [hrun, hadd, run_bindA, e1]; rfl
            have hnb : ρ s2.next = none := hfree _ (Nat.le_refl _) (by omega)
            have hablk : a.block ≠ s2.next := by omega
            have hlim : s2.next + 1 ≤ lim := by omega
            have hle : Le ρ (fun b => if b = s2.next then some ⟨g.blk, (sLen + n) * ei.size, g.m, e0⟩ else ρ b) := fun b g1 hb1 => by
              show (if b = s2.next then some _ else ρ b) = some g1
              rw [if_neg (fun h => by subst h; rw [hnb] at hb1; cases hb1)]; exact hb1
            have hwd : WF (s2.put a.block dead) := odead.wf
            -- the living names, now
            have live : ∀ y o, ((s2.put a.block dead).push (.cells (old ++ new) e0 (0, 0))).get y = some o → isDead o = false → y = s2.next ∧ o = .cells (old ++ new) e0 (0, 0) ∨ y ≠ s2.next ∧ y ≠ a.block ∧ s2.get y = some o := by
              intro y o hy hd
              by_cases h1 : y = s2.next
              · subst h1
                have := St.get_push_same (s := s2.put a.block dead) hwd.le (.cells (old ++ new) e0 (0, 0))
                rw [show (s2.put a.block dead).next = s2.next from rfl] at this
                rw [this] at hy; cases hy; exact .inl ⟨rfl, rfl⟩
              · rw [St.get_push_ne (s := s2.put a.block dead) _ (fun h => h1 h.symm)] at hy
                by_cases h2 : a.block = y
                · subst h2; rw [St.get_put_same hw hblt] at hy; cases hy; cases hd
                · rw [St.get_put_ne _ h2] at hy; exact .inr ⟨h1, fun h => h2 h.symm, hy⟩
            refine ⟨_, w1, _, hrun1, ⟨hle, ⟨?_, ?_, ?_⟩, ?_, ?_, Nat.le_of_eq h6.symm, Nat.le_succ _, hwd.push hlim _, ?_, h7, h8, h9⟩, ?_⟩
            · intro b g1 hb1
              replace hb1 : (if b = s2.next then some _ else ρ b) = some g1 := hb1
              rw [h6]
              split at hb1
              · cases hb1; exact hR.lt a.block g hg
              · exact hR.lt _ _ hb1
            · intro x1 x2 g1 g2 o1 o2 hx1 hx2 ho1 ho2 d1 d2 hk
              replace hx1 : (if x1 = s2.next then some _ else ρ x1) = some g1 := hx1
              replace hx2 : (if x2 = s2.next then some _ else ρ x2) = some g2 := hx2
              rcases live x1 o1 ho1 d1 with ⟨q1, _⟩ | ⟨q1, q2, q3⟩ <;> rcases live x2 o2 ho2 d2 with ⟨p1, _⟩ | ⟨p1, p2, p3⟩
              · rw [q1, p1]
              · rw [if_pos q1] at hx1; rw [if_neg p1] at hx2; cases hx1
                exact absurd (hR.inj x2 a.block g2 g o2 _ hx2 hg p3 hs0 d2 rfl hk.symm) p2
              · rw [if_neg q1] at hx1; rw [if_pos p1] at hx2; cases hx2
                exact absurd (hR.inj x1 a.block g1 g o1 _ hx1 hg q3 hs0 d1 rfl hk) q2
              · rw [if_neg q1] at hx1; rw [if_neg p1] at hx2
                exact hR.inj x1 x2 g1 g2 o1 o2 hx1 hx2 q3 p3 d1 d2 hk
            · intro x1 g1 o1 hx1 ho1
              replace hx1 : (if x1 = s2.next then some _ else ρ x1) = some g1 := hx1
              cases hd1 : isDead o1 with
              | true => exact .of_dead hd1
              | false =>
                rcases live x1 o1 ho1 hd1 with ⟨q1, q2⟩ | ⟨q1, q2, q3⟩
                · rw [if_pos q1] at hx1; cases hx1
                  subst q2
                  simp only [h2]
                  refine ⟨rfl, rfl, rfl, hsz, by rw [h3]; exact hgm, by rw [hsz, h3, hgm]; exact hm1, by rw [h3]; exact hfz, fun i u hu => ?_⟩
                  rw [h4 i]
                  rw [Array.getElem?_append] at hu
                  by_cases hi : i < old.size
                  · rw [if_pos hi] at hu
                    rw [if_neg (by omega)]
                    obtain ⟨_, hv1⟩ := loads_vals (P := P) (a := a) (sLen * ei.size) 0 #[] s2 s2 old hold
                    have := hv1 i (by omega)
                    rw [show (#[] : Array Value).size + i = i by simp, Nat.zero_add] at this
                    rw [this] at hu
                    have hcu : c0[i]? = some u := by
                      unfold St.cell at hu
                      have hb0 : (a.add i).block = a.block := by unfold Addr.add; split <;> rfl
                      have ho0 : (a.add i).off = i := by
                        unfold Addr.add; split
                        · rename_i h0; rw [h0]; exact ha0
                        · show a.off + i = i; omega
                      have hsp0 : (a.add i).spot = none := by unfold Addr.add; split <;> first | exact hsp | rfl
                      rw [hb0, hs0] at hu
                      simpa [hsp0, ho0] using hu
                    obtain ⟨u', q1, q2⟩ := hcells i u hcu
                    exact ⟨u', q1, q2.mono hle⟩
                  · rw [if_neg hi] at hu
                    have hi2 : i - old.size < new.size := by
                      rcases Nat.lt_or_ge (i - old.size) new.size with q | q
                      · exact q
                      · rw [Array.getElem?_eq_none q] at hu; cases hu
                    rw [if_pos (by rw [hns']; omega)]
                    obtain ⟨u', q1, q2⟩ := hnr.get hu
                    refine ⟨u', ?_, q2.mono hle⟩
                    rw [Nat.add_zero, ← hos]; simpa using q1
                · rw [if_neg q1] at hx1
                  have hne2 : g1.blk ≠ g.blk := fun hk => q2 (hR.inj x1 a.block g1 g o1 _ hx1 hg q3 hs0 hd1 rfl hk)
                  rw [h5 _ hne2]
                  exact (hR.obj x1 g1 o1 hx1 q3).mono hle
            · intro b g1 hb1 hb2
              replace hb1 : (if b = s2.next then some _ else ρ b) = some g1 := hb1
              split at hb1
              · rename_i hbn; cases hb1; subst hbn
                exact ⟨Nat.le_refl _, Nat.lt_succ_self _, .inr ⟨a.block, g, _, hg, rfl, hs0, rfl⟩⟩
              · rw [hb1] at hb2; cases hb2
            · intro k hk hn
              exact h5 k fun hk2 => hn ⟨a.block, g, _, hg, hk2.symm, hs0, rfl⟩
            · intro b o hb1 q1 q2
              rcases live b o q1 q2 with ⟨q3, _⟩ | ⟨_, _, q3⟩
              · omega
              · exact ⟨o, q3, q2⟩
            · refine .sl ⟨s2.next, 0, none⟩ ⟨g.blk, (sLen + n) * ei.size, g.m, e0⟩ _ _ a.off cap' (by simp) rfl (fun _ => ha0) (.inr ⟨hin, ?_, ?_⟩)
              · show 0 + (sLen + n) * P.cellsOf e0 = (sLen + n) * ei.size
                rw [hcell, Nat.zero_add]
              · rw [ha0]
                show 0 + cap' * P.cellsOf e0 ≤ g.m
                rw [← hge]
                rw [ha0] at hc2; exact hc2
          · exact grow (s2.put a.block dead) rfl odead _ _ (.sl a g _ _ off' cap' hg hsp ho hc) hb' hin

end Go.Am

namespace Go.Am
variable {P : Program}

theorem bytesStrC_spec {ρ : Ren} {s : St} {w : World} {x x' v : Value} (hR : R P ρ s w) (hw : WF s) (h : bytesStrC P x s = some v) (hx : VR P ρ x x') :
    (Conv.bytesToString x').run P w = .ok v w := by
  unfold bytesStrC at h
  split at h
  · cases h; cases hx; rfl
  · rename_i a len c
    cases hl : runC P (loadCells a len) s with
    | none => rw [hl] at h; cases h
    | some q =>
      obtain ⟨cs, s0⟩ := q
      rw [hl] at h
      simp only at h
      split at h
      · rename_i hfree
        have hl' : runC P (Builtin.firstCells 1 len (.slice (some a) len c)) s = some (cs, s0) := by
          show runC P (loadCells a (len * 1)) s = _
          rw [Nat.mul_one]; exact hl
        obtain ⟨cs', h1, h2⟩ := firstCells_rel hR hw hx hl'
        have he : cs' = cs := by
          refine Array.ext h2.size.symm fun i q1 q2 => ?_
          refine (h2.at_ i q2 q1).eq_of_free 1 ?_
          exact List.all_eq_true.1 hfree _ (Array.mem_toList_iff.2 (Array.getElem_mem _))
        subst he
        cases hx with
        | sl a g _ _ off' c' hg hsp ho hc =>
          have h3 : (loadCells ⟨g.blk, off', none⟩ len).run P w = .ok cs' w := by
            have : (loadCells ⟨g.blk, off', none⟩ (len * 1)).run P w = .ok cs' w := h1
            rwa [Nat.mul_one] at this
          have h4 : Conv.bytesToString (.slice (some ⟨g.blk, off', none⟩) len c') = (loadCells ⟨g.blk, off', none⟩ len >>= bytesRest) := rfl
          rw [h4, run_bindA, h3]
          split at h
          · rename_i b hb; cases h; exact pureRun_run _ _ hb w
          · cases h
      · cases h
  · cases h

theorem equal_unfold (t : TypeId) (x y : Value) : Op.equal t x y = Op.equalIn (9999 + 1) t x y := rfl

theorem nilEq_spec {ρ : Ren} {t : TypeId} {x x' y y' : Value} {b : Bool} (h : nilEq P t x y = some b) (hx : VR P ρ x x') (hy : VR P ρ y y') (w : World) :
    (Op.equal t x' y').run P w = .ok b w ∧ (∀ o a c, eqGuard o t a c x' y' = Pure.pure ()) ∧ binOp .eql t x' y' = (do Pure.pure (.bool (← Op.equal t x' y'))) ∧
      binOp .neq t x' y' = (do Pure.pure (.bool (!(← Op.equal t x' y')))) := by
  rw [equal_unfold]
  unfold nilEq at h
  split at h <;> first | (cases h; done) | skip
  all_goals
    rename_i hd
    cases h
  · rename_i a
    cases hy
    have hx' : ∃ a' : Option Addr, x' = .pointer a' ∧ a'.isNone = a.isNone := by cases hx <;> exact ⟨_, rfl, rfl⟩
    obtain ⟨a', rfl, ha⟩ := hx'
    refine ⟨?_, fun o _ _ => by unfold eqGuard; cases o <;> rfl, rfl, rfl⟩
    unfold Op.equalIn
    rw [run_undA hd, ← ha]
    cases a' <;> rfl
  · rename_i a _
    cases hx
    have hy' : ∃ a' : Option Addr, y' = .pointer a' ∧ a'.isNone = a.isNone := by cases hy <;> exact ⟨_, rfl, rfl⟩
    obtain ⟨a', rfl, ha⟩ := hy'
    refine ⟨?_, fun o _ _ => by unfold eqGuard; cases o <;> rfl, rfl, rfl⟩
    unfold Op.equalIn
    rw [run_undA hd, ← ha]
    cases a' <;> rfl
  · rename_i a _ _ _ _
    cases hy
    have hx' : ∃ (a' : Option Addr) (l c : Nat), x' = .slice a' l c ∧ a'.isNone = a.isNone := by cases hx <;> exact ⟨_, _, _, rfl, rfl⟩
    obtain ⟨a', l, c, rfl, ha⟩ := hx'
    refine ⟨?_, fun o _ _ => by unfold eqGuard; cases o <;> rfl, rfl, rfl⟩
    unfold Op.equalIn
    rw [run_undA hd, ← ha]
    cases a' <;> rfl
  · rename_i _ _ a _ _ _
    cases hx
    have hy' : ∃ (a' : Option Addr) (l c : Nat), y' = .slice a' l c ∧ a'.isNone = a.isNone := by cases hy <;> exact ⟨_, _, _, rfl, rfl⟩
    obtain ⟨a', l, c, rfl, ha⟩ := hy'
    refine ⟨?_, fun o _ _ => by unfold eqGuard; cases o <;> rfl, rfl, rfl⟩
    unfold Op.equalIn
    rw [run_undA hd, ← ha]
    cases a' <;> rfl
  · rename_i a
    cases hy
    have hx' : ∃ a' : Option Nat, x' = .map a' ∧ a'.isNone = a.isNone := by cases hx <;> exact ⟨_, rfl, rfl⟩
    obtain ⟨a', rfl, ha⟩ := hx'
    refine ⟨?_, fun o _ _ => by unfold eqGuard; cases o <;> rfl, rfl, rfl⟩
    unfold Op.equalIn
    rw [run_undA hd, ← ha]
    cases a' <;> rfl
  · rename_i a _
    cases hx
    have hy' : ∃ a' : Option Nat, y' = .map a' ∧ a'.isNone = a.isNone := by cases hy <;> exact ⟨_, rfl, rfl⟩
    obtain ⟨a', rfl, ha⟩ := hy'
    refine ⟨?_, fun o _ _ => by unfold eqGuard; cases o <;> rfl, rfl, rfl⟩
    unfold Op.equalIn
    rw [run_undA hd, ← ha]
    cases a' <;> rfl

/-- operands of a list, as an array -/
theorem map_rel {ρ : Ren} {ev ev' : Operand → Value} (l : Array Operand) (h : ∀ x ∈ l.toList, VR P ρ (ev x) (ev' x)) : VRs P ρ (l.map ev) (l.map ev') :=
  ⟨by simp, fun i h1 h2 => by
    simp only [Array.getElem_map]
    exact h _ (Array.mem_toList_iff.2 (Array.getElem_mem _))⟩

theorem opt_rel {ρ : Ren} {ev ev' : Operand → Value} (l : Option Operand) (h : ∀ x, l = some x → VR P ρ (ev x) (ev' x)) : OR2 P ρ (l.map ev) (l.map ev') := by
  cases l with
  | none => trivial
  | some x => exact h x rfl

theorem parts_rel {ρ : Ren} {ev ev' : Operand → Value} (l : Array (Nat × Operand)) (h : ∀ x ∈ l.toList.map (·.2), VR P ρ (ev x) (ev' x)) :
    PartsR P ρ (l.map fun (i, x) => (i, ev x)) (l.map fun (i, x) => (i, ev' x)) := by
  refine ⟨by simp, fun j p p' h1 h2 => ?_⟩
  simp only [Array.toList_map, List.getElem?_map, Option.map_eq_some_iff, Prod.exists] at h1 h2
  obtain ⟨i, x, h3, rfl⟩ := h1
  obtain ⟨i2, x2, h4, rfl⟩ := h2
  rw [h3] at h4; cases h4
  refine ⟨rfl, h x (List.mem_map.2 ⟨(i, x), ?_, rfl⟩)⟩
  exact List.mem_of_getElem? h3

/-- what the table says of body-less functions -/
def ExtOk (P : Program) (ext : FuncId → Option Ext) : Prop := ∀ f e, ext f = some e → ∀ (args : Array Value) (w : World), (callFunc f args).run P w =
  ((match e with | .free e => e args | .clone => Extern.MapsClone.clone args) >>= fun v => (Pure.pure (.value v) : Sem Next)).run P w

theorem sem_next {S : Sem Value} {v : Value} {w w1 : World} (h : S.run P w = .ok v w1) : (S >>= fun v => (Pure.pure (.value v) : Sem Next)).run P w = .ok (.value v) w1 := by
  rw [run_bindA, h]; rfl

theorem enterC_spec {ext : FuncId → Option Ext} (hext : ExtOk P ext) {ρ : Ren} {f : FuncId} {as as' : Array Value} (ha : VRs P ρ as as') : SimO P (fun s => enterC P ext f as s) (callFunc f as') ρ := by
  intro s w x s1 N hF hR hw hN hl hfree
  simp only [enterC] at hF
  split at hF
  · rename_i e he
    split at hF
    · rename_i hfr
      split at hF
      · rename_i v hv
        split at hF
        · rename_i hvf; cases hF
          have has : as' = as := by
            refine Array.ext ha.size.symm fun i q1 q2 => ?_
            exact (ha.at_ i q2 q1).eq_of_free 100 (List.all_eq_true.1 hfr _ (Array.mem_toList_iff.2 (Array.getElem_mem _)))
          subst has
          refine ⟨_, w, ρ, ?_, .refl hR hw, .value _ _ (VR.of_free 100 v hvf)⟩
          rw [hext f _ he]
          exact sem_next (pureRun_run _ _ hv w)
        · cases hF
      · cases hF
    · cases hF
  · rename_i he
    simp only [Option.map_eq_some_iff, Prod.exists] at hF
    obtain ⟨v, s2, h1, h2⟩ := hF
    cases h2
    obtain ⟨v', w1, ρ1, h3, h4, h5⟩ := cloneC_spec hR hw h1 ha hN hl hfree
    refine ⟨_, w1, ρ1, ?_, h4, .value _ _ h5⟩
    rw [hext f _ he]
    exact sem_next h3
  · split at hF
    · rename_i fn hfn
      split at hF
      · rename_i hb; cases hF
        simp only [Bool.and_eq_true, Bool.not_eq_true'] at hb
        refine ⟨.enter f as', w, ρ, ?_, .refl hR hw, .enter f _ _ ha⟩
        unfold callFunc
        show Sem.run P (match P.funcs[f]? with | none => _ | some fn => _) w = _
        rw [hfn]
        simp only [hb.2, Bool.false_eq_true, if_false]
        have : fn.body.isNone = false := by cases hfb : fn.body <;> simp [hfb] at hb ⊢
        rw [this]; rfl
      · cases hF
    · cases hF

end Go.Am

namespace Go.Am
variable {P : Program}

/-- how the value of an operation that only looks is handed on -/
theorem simO_look {ρ : Ren} {F : St → Option Value} {S' : Sem Value}
    (h : ∀ s w v, F s = some v → R P ρ s w → WF s → ∃ v', S'.run P w = .ok v' w ∧ VR P ρ v v') :
    SimO P (fun s => (F s).map fun x => (.value x, s)) (S' >>= fun v => (Pure.pure (.value v) : Sem Next)) ρ := by
  intro s w x s1 N hF hR hw _ _ _
  simp only [Option.map_eq_some_iff] at hF
  obtain ⟨v, h1, h2⟩ := hF
  cases h2
  obtain ⟨v', h3, h4⟩ := h s w v h1 hR hw
  exact ⟨_, w, ρ, sem_next h3, .refl hR hw, .value _ _ h4⟩

theorem simO_free {ρ : Ren} {S S' : Sem Next} (h : S' = S) : SimO P (fun s => (freeRun P S).map fun x => (.value x, s)) S' ρ := by
  intro s w x s1 N hF hR hw _ _ _
  simp only [Option.map_eq_some_iff] at hF
  obtain ⟨v, h1, h2⟩ := hF
  cases h2
  obtain ⟨h3, h4⟩ := freeRun_spec h1
  subst h
  exact ⟨_, w, ρ, h3 w, .refl hR hw, .value _ _ (h4 ρ)⟩

theorem simO_sem {ρ : Ren} {S S' : Sem Value} (h : Sim P S S' ρ (fun ρ1 => VR P ρ1)) :
    Sim P (S >>= fun v => (Pure.pure (.value v) : Sem Next)) (S' >>= fun v => (Pure.pure (.value v) : Sem Next)) ρ (NR P) :=
  Sim.bind h fun _ _ _ _ hv => Sim.pure (.value _ _ hv)

theorem simO_unit {ρ : Ren} {S S' : Sem Unit} (h : Sim P S S' ρ (fun _ _ _ => True)) :
    Sim P (S >>= fun _ => (Pure.pure .skip : Sem Next)) (S' >>= fun _ => (Pure.pure .skip : Sem Next)) ρ (NR P) :=
  Sim.bind h fun _ _ _ _ _ => Sim.pure .skip

theorem execOp_same {ev ev' : Operand → Value} (o : Oper) (hs : ∀ cs b, o.op ≠ .select cs b) (h : ∀ x ∈ o.op.operands.toList, ev' x = ev x) : execOp ev' o = execOp ev o :=
  execOp_congr o hs fun x hx => h x (by simpa using hx)

theorem methodC_spec {t : TypeId} {name : String} {f : FuncId} (h : methodC P t name = some f) (fuel : Nat) (v : Value) (w : World) : (method (fuel + 1) t v name).run P w = .ok (f, v) w := by
  unfold methodC at h
  split at h
  · cases h
  · rename_i ti hti
    split at h
    · cases h
    · rename_i m hm
      split at h
      · rename_i hp
        have hp' : m.path.toList = [] := by simpa using hp
        unfold method
        rw [run_infoA hti, hm]
        simp only
        have hfol : follow m.path.toList t (.val v) = Pure.pure (t, .val v) := by rw [hp']; rfl
        rw [hfol]
        simp only [pure_bind]
        split at h
        · rename_i f0 d hf hd; cases h
          rw [hf]
          simp only
          unfold receiverAt
          rw [bind_assoc, run_undA hd]; rfl
        · cases h
        · cases h
        · rename_i f0 d hnp hf hd; cases h
          rw [hf]
          simp only
          unfold receiverAt
          rw [bind_assoc, run_undA hd]
          cases d <;> first | exact absurd rfl (hnp _) | rfl
        · cases h
      · cases h

theorem sim_clear (hz : zerosFree P) {ρ : Ren} {ts : Array TypeId} {t : TypeId} {as as' : Array Value} (h : clearC P ts as = true) (ha : VRs P ρ as as') :
    Sim P (Builtin.clear_ ts t as) (Builtin.clear_ ts t as') ρ (fun ρ1 => VR P ρ1) := by
  unfold clearC at h
  split at h
  · rename_i t0 base n c h0 a0
    obtain ⟨x', a1, hx⟩ := ha.get a0
    unfold Builtin.clear_
    simp only [h0, a0, a1]
    have unit : ∀ ρ1 : Ren, VR P ρ1 (.tuple #[]) (.tuple #[]) := fun _ => .tuple _ _ rfl (fun i h => by simp at h)
    split at h
    · rename_i elem hd
      refine sim_und fun d hd' => ?_
      have : d = .slice elem := Option.some.inj (hd'.symm.trans hd)
      subst this
      cases hx with
      | slNil => exact Sim.pure (unit ρ)
      | sl a g _ _ off' c' hg hsp ho hc =>
        cases n with
        | zero => exact Sim.pure (unit ρ)
        | succ n =>
          have hoff : off' = a.off := ho (.inr (.inl (Nat.succ_pos _)))
          subst hoff
          simp only
          refine Sim.bind (sim_zeroValue hz) fun ρ1 z z' hle hzz => ?_
          obtain ⟨rfl, hf⟩ := hzz
          have hzr : VRs P ρ1 (Builtin.zeroCells z.cells (n + 1)) (Builtin.zeroCells z.cells (n + 1)) := cycle_rel (VR.of_free 100 z hf).cells _
          refine Sim.bind (sim_storeCells (a := a) (a' := ⟨g.blk, a.off, none⟩) _ _ 0 ρ1 ⟨g, hle _ _ hg, by rw [hsp]⟩ hzr.list.1 hzr.list.2) fun ρ2 _ _ _ _ => ?_
          exact Sim.pure (unit ρ2)
    · cases h
  · cases h

theorem opC_sound (hz : zerosFree P) {ext : FuncId → Option Ext} (hext : ExtOk P ext) {ρ : Ren} {ev ev' : Operand → Value} {o : Oper} (hev : EvR P ρ ev ev' o.op.operands.toList) :
    SimO P (fun s => opC P ext ev o s) (execOp ev' o) ρ := by
  obtain ⟨dst, op, type, pos, after, guard⟩ := o
  cases op with
  | move x => 
    refine SimO.val fun s w r s1 hF hR hw => ?_
    simp only [opC] at hF; cases hF
    exact ⟨rfl, _, _, rfl, rfl, hev x (by simp [Op.operands])⟩
  | assign x =>
    refine SimO.val fun s w r s1 hF hR hw => ?_
    simp only [opC] at hF; cases hF
    exact ⟨rfl, _, _, rfl, rfl, hev x (by simp [Op.operands])⟩
  | pick c a b =>
    have hc := hev c (by simp [Op.operands])
    have h1 := hev a (by simp [Op.operands])
    have h2 := hev b (by simp [Op.operands])
    refine SimO.val fun s w r s1 hF hR hw => ?_
    simp only [opC] at hF
    split at hF
    · rename_i t ht; cases hF
      rw [ht] at hc
      generalize hq : ev' c = q at hc
      cases hc
      refine ⟨rfl, _, if t = true then ev' a else ev' b, rfl, ?_, by split <;> assumption⟩
      show (asBool (ev' c) >>= fun t => (Pure.pure (.value (if t then ev' a else ev' b)) : Sem Next)).run P w = _
      rw [hq]; rfl
    · cases hF
  | alloc e => exact simO_sem (sim_alloc hz e)
  | box e x => exact simO_sem (sim_box (hev x (by simp [Op.operands])) e)
  | build t ps => exact simO_sem (sim_build hz (parts_rel ps fun x hx => hev x (by simpa [Op.operands] using hx)) t)
  | buildSlice t n ps => exact simO_sem (sim_buildSlice hz (parts_rel ps fun x hx => hev x (by simpa [Op.operands] using hx)) t n)
  | load t a => exact simO_sem (sim_loadAt (hev a (by simp [Op.operands])) t)
  | store t a x => exact simO_unit (sim_storeAt (hev a (by simp [Op.operands])) (hev x (by simp [Op.operands])) t)
  | makeSlice t a b => exact simO_sem (sim_makeSlice hz (hev a (by simp [Op.operands])) (hev b (by simp [Op.operands])) t)
  | fieldAddr st x f => exact simO_look fun s w v h _ _ => let ⟨v', h1, h2⟩ := fieldC_spec h (hev x (by simp [Op.operands])); ⟨v', h1 w, h2⟩
  | indexAddr t x i => exact simO_look fun s w v h _ _ => let ⟨v', h1, h2⟩ := indexC_spec h (hev x (by simp [Op.operands])) (hev i (by simp [Op.operands])); ⟨v', h1 w, h2⟩
  | nilCheck x =>
    have hx := hev x (by simp [Op.operands])
    refine SimO.val fun s w r s1 hF hR hw => ?_
    simp only [opC] at hF
    split at hF
    · rename_i a ha; cases hF
      rw [ha] at hx
      obtain ⟨a', h1, h2⟩ := hx.ar
      refine ⟨rfl, _, .pointer (some a'), rfl, ?_, h2.vr⟩
      simp only [execOp, h1]; rfl
    · cases hF
  | extract t i =>
    have hx := hev t (by simp [Op.operands])
    refine SimO.val fun s w r s1 hF hR hw => ?_
    simp only [opC] at hF
    split at hF
    · rename_i vs hvs
      split at hF
      · rename_i y hy; cases hF
        rw [hvs] at hx
        generalize hq : ev' t = q at hx
        cases hx with
        | tuple c c' hc vc =>
          obtain ⟨y', h1, h2⟩ := VRs.get ⟨hc, vc⟩ hy
          refine ⟨rfl, _, y', rfl, ?_, h2⟩
          show (Instr.extract (ev' t) i >>= fun v => (Pure.pure (.value v) : Sem Next)).run P w = _
          rw [hq]
          unfold Instr.extract
          simp only [h1]; rfl
      · cases hF
    · cases hF
  | makeInterface xt x =>
    have hx := hev x (by simp [Op.operands])
    refine SimO.val fun s w r s1 hF hR hw => ?_
    simp only [opC] at hF
    split at hF
    · cases hF
    · cases hF
    · rename_i d hni hd; cases hF
      refine ⟨rfl, _, .iface xt (ev' x), rfl, ?_, .iface _ _ _ hx⟩
      refine sem_next ?_
      unfold Instr.makeInterface
      rw [run_undA hd]
      cases d <;> first | exact absurd rfl (hni _) | rfl
  | makeFunc fn first captured =>
    refine SimO.val fun s w r s1 hF hR hw => ?_
    simp only [opC] at hF; cases hF
    have h1 := map_rel (P := P) (ρ := ρ) (ev := ev) (ev' := ev') first fun x hx => hev x (by simp only [Op.operands, Array.toList_append, List.mem_append]; exact .inl hx)
    have h2 := map_rel (P := P) (ρ := ρ) (ev := ev) (ev' := ev') captured fun x hx => hev x (by simp only [Op.operands, Array.toList_append, List.mem_append]; exact .inr hx)
    exact ⟨rfl, _, _, rfl, rfl, .func fn _ _ _ _ h1.size h2.size h1.at_ h2.at_⟩
  | makeMap t r =>
    cases r with
    | none => exact simO_makeMap t
    | some r => intro s w x s1 N hF; simp [opC] at hF
  | typeAssert x xt t ok =>
    exact simO_look fun s w v h _ _ => let ⟨v', h1, h2⟩ := typeAssertC_spec hz h (hev x (by simp [Op.operands])); ⟨v', h1 w, h2⟩
  | lookup t m i ok => exact simO_look (F := fun s => lookupC P t (ev m) (ev i) ok s) fun s w v h hR _ => lookupC_spec hz hR h (hev m (by simp [Op.operands])) (hev i (by simp [Op.operands]))
  | mapUpdate t m i x =>
    intro s w r s1 N hF hR hw hN hl hfree
    simp only [opC, Option.map_eq_some_iff] at hF
    obtain ⟨s2, h1, h2⟩ := hF; cases h2
    obtain ⟨w1, h3, h4⟩ := mapUpdateC_spec hR hw h1 (hev m (by simp [Op.operands])) (hev i (by simp [Op.operands])) (hev x (by simp [Op.operands]))
    refine ⟨.skip, w1, ρ, ?_, h4, .skip⟩
    show (Instr.mapUpdate t (ev' m) (ev' i) (ev' x) >>= fun _ => (Pure.pure .skip : Sem Next)).run P w = _
    rw [run_bindA, h3]; rfl
  | mapEntry t m i =>
    intro s w r s1 N hF hR hw hN hl hfree
    simp only [opC, Option.map_eq_some_iff, Prod.exists] at hF
    obtain ⟨v, s2, h1, h2⟩ := hF; cases h2
    obtain ⟨v', w1, h3, h4, h5⟩ := mapEntryC_spec hz hR hw h1 (hev m (by simp [Op.operands])) (hev i (by simp [Op.operands]))
    exact ⟨_, w1, ρ, sem_next h3, h4, .value _ _ h5⟩
  | entryStore t m st x =>
    intro s w r s1 N hF hR hw hN hl hfree
    simp only [opC, Option.map_eq_some_iff] at hF
    obtain ⟨s2, h1, h2⟩ := hF; cases h2
    obtain ⟨w1, h3, h4⟩ := entryStoreC_spec (mt := t) hR hw h1 (hev m (by simp [Op.operands])) (hev st (by simp [Op.operands])) (hev x (by simp [Op.operands]))
    refine ⟨.skip, w1, ρ, ?_, h4, .skip⟩
    show (Instr.entryStore t (ev' m) (ev' st) (ev' x) >>= fun _ => (Pure.pure .skip : Sem Next)).run P w = _
    rw [run_bindA, h3]; rfl
  | range t x => exact simO_range (hev x (by simp [Op.operands]))
  | next it b =>
    intro s w r s1 N hF hR hw hN hl hfree
    simp only [opC, Option.map_eq_some_iff, Prod.exists] at hF
    obtain ⟨v, s2, h1, h2⟩ := hF; cases h2
    obtain ⟨v', w1, h3, h4, h5⟩ := nextC_spec (t := type) hR hw h1 (hev it (by simp [Op.operands]))
    exact ⟨_, w1, ρ, sem_next h3, h4, .value _ _ h5⟩
  | unOp a b c =>
    intro s w r s1 N hF
    simp only [opC] at hF
    split at hF
    · rename_i hf
      exact simO_free (execOp_same _ (by intros; simp) (hev.free hf)) s w r s1 N hF
    · cases hF
  | field a b c =>
    intro s w r s1 N hF
    simp only [opC] at hF
    split at hF
    · rename_i hf
      exact simO_free (execOp_same _ (by intros; simp) (hev.free hf)) s w r s1 N hF
    · cases hF
  | index a b c =>
    intro s w r s1 N hF
    simp only [opC] at hF
    split at hF
    · rename_i hf
      exact simO_free (execOp_same _ (by intros; simp) (hev.free hf)) s w r s1 N hF
    · cases hF
  | binOp op t x y yt =>
    intro s w r s1 N hF
    have hx := hev x (by simp [Op.operands])
    have hy := hev y (by simp [Op.operands])
    simp only [opC] at hF
    split at hF
    · rename_i hf
      simp only [Bool.and_eq_true] at hf
      refine simO_free (execOp_same _ (by intros; simp) fun z hz => ?_) s w r s1 N hF
      simp only [Op.operands, List.mem_cons, List.mem_nil_iff, or_false] at hz
      rcases hz with rfl | rfl
      · exact hx.eq_of_free 100 hf.1
      · exact hy.eq_of_free 100 hf.2
    · split at hF
      · rename_i b hb; cases hF
        intro hR hw _ _ _
        obtain ⟨h1, h2, h3, h4⟩ := nilEq_spec hb hx hy w
        refine ⟨_, w, ρ, ?_, .refl hR hw, .value _ _ (.bool b)⟩
        refine sem_next ?_
        rw [h2]
        show (binOp .eql t (ev' x) (ev' y)).run P w = _
        rw [h3, run_bindA, h1]; rfl
      · rename_i b hb; cases hF
        intro hR hw _ _ _
        obtain ⟨h1, h2, h3, h4⟩ := nilEq_spec hb hx hy w
        refine ⟨_, w, ρ, ?_, .refl hR hw, .value _ _ (.bool !b)⟩
        refine sem_next ?_
        rw [h2]
        show (binOp .neq t (ev' x) (ev' y)).run P w = _
        rw [h4, run_bindA, h1]; rfl
      · cases hF
  | convert src dst x =>
    have hx := hev x (by simp [Op.operands])
    intro s w r s1 N hF
    simp only [opC] at hF
    split at hF
    · rename_i e tx hsrc hdst htx
      split at hF
      · rename_i hek
        split at hF
        · rename_i hc1
          simp only [Option.map_some, Option.some.injEq] at hF
          obtain ⟨rfl, rfl⟩ := Prod.mk.inj hF
          intro hR hw hN hl hfree
          rw [htx] at hx
          generalize hq : ev' x = q at hx
          cases hx
          obtain ⟨v', w1, ρ1, h1, h2, h3⟩ := strBytes_spec (e := e) (t := tx) hR hw hN hl hfree hc1
          refine ⟨.value v', w1, ρ1, ?_, h2, .value _ _ h3⟩
          refine sem_next ?_
          rw [hq]
          unfold convert
          rw [run_undA hsrc, run_undA hdst]
          simp only
          rw [run_undA hek]
          exact h1
        · cases hF
      · cases hF
    · rename_i e a n c hsrc hdst htx
      split at hF
      · rename_i hek
        intro hR hw hN hl hfree
        simp only [Option.map_eq_some_iff] at hF
        obtain ⟨v, h1, h2⟩ := hF; cases h2
        rw [htx] at hx
        have h3 := bytesStrC_spec hR hw h1 hx
        have hvf : VR P ρ v v := by
          unfold bytesStrC at h1
          split at h1
          · cases h1; exact .string _
          · split at h1
            · split at h1
              · split at h1
                · cases h1; exact .string _
                · cases h1
              · cases h1
            · cases h1
          · cases h1
        refine ⟨.value v, w, ρ, ?_, .refl hR hw, .value _ _ hvf⟩
        refine sem_next ?_
        generalize hq : ev' x = q at hx h3 ⊢
        have hqs : ∃ a l c, q = .slice a l c := by cases hx <;> exact ⟨_, _, _, rfl⟩
        obtain ⟨a', l', c', rfl⟩ := hqs
        unfold convert
        rw [run_undA hsrc, run_undA hdst]
        simp only
        rw [run_undA hek]
        exact h3
      · cases hF
    · rename_i k i htx
      refine simO_free (execOp_same _ (by intros; simp) fun z hz => ?_) s w r s1 N hF
      simp only [Op.operands, List.mem_cons, List.mem_nil_iff, or_false] at hz
      subst hz
      exact hx.eq_of_free 100 (by rw [htx]; rfl)
    · rename_i b hd htx
      refine simO_free (execOp_same _ (by intros; simp) fun z hz => ?_) s w r s1 N hF
      simp only [Op.operands, List.mem_cons, List.mem_nil_iff, or_false] at hz
      subst hz
      exact hx.eq_of_free 100 (by rw [htx]; rfl)
    · cases hF
  | slice t x lo hi mx =>
    have hx := hev x (by simp [Op.operands])
    have hlo := opt_rel (P := P) (ρ := ρ) (ev := ev) (ev' := ev') lo fun y hy => hev y (by subst hy; simp [Op.operands])
    have hhi := opt_rel (P := P) (ρ := ρ) (ev := ev) (ev' := ev') hi fun y hy => hev y (by subst hy; simp [Op.operands])
    have hmx := opt_rel (P := P) (ρ := ρ) (ev := ev) (ev' := ev') mx fun y hy => hev y (by subst hy; simp [Op.operands])
    intro s w r s1 N hF
    simp only [opC] at hF
    split at hF
    · split at hF
      · rename_i hf
        exact simO_free (execOp_same _ (by intros; simp) (hev.free hf)) s w r s1 N hF
      · cases hF
    · rename_i a l c hxe
      refine simO_look (F := fun s => sliceC P t (ev x) (lo.map ev) (hi.map ev) (mx.map ev) s) (S' := Instr.sliceAt t (ev' x) (lo.map ev') (hi.map ev') (mx.map ev')) ?_ s w r s1 N hF
      intro s w v h hR _
      exact sliceC_spec hR h hx hlo hhi hmx
    · cases hF
  | call c =>
    obtain ⟨callee, args, ats⟩ := c
    have hargs := map_rel (P := P) (ρ := ρ) (ev := ev) (ev' := ev') args fun x hx => hev x (by
      simp only [Op.operands, Call.operands, Array.toList_append, List.mem_append]; exact .inr hx)
    cases callee with
    | builtin b =>
      cases b with
      | append =>
        intro s w r s1 N hF hR hw hN hl hfree
        simp only [opC, Option.map_eq_some_iff, Prod.exists] at hF
        obtain ⟨v, s2, h1, h2⟩ := hF; cases h2
        obtain ⟨v', w1, ρ1, h3, h4, h5⟩ := appendC_spec (t := type) hR hw h1 hargs hN hl hfree
        exact ⟨_, w1, ρ1, sem_next h3, h4, .value _ _ h5⟩
      | cap => exact simO_look (F := fun s => capC P ats (args.map ev) s) (S' := Builtin.cap_ ats type (args.map ev')) fun s w v h hR _ => capC_spec hR h hargs
      | len => exact simO_look (F := fun s => lenC P ats (args.map ev) s) (S' := Builtin.len_ ats type (args.map ev')) fun s w v h hR _ => lenC_spec hR h hargs
      | delete =>
        intro s w r s1 N hF hR hw hN hl hfree
        simp only [opC, Option.map_eq_some_iff] at hF
        obtain ⟨s2, h1, h2⟩ := hF; cases h2
        obtain ⟨w1, h3, h4⟩ := deleteC_spec (t := type) hR hw h1 hargs
        exact ⟨_, w1, ρ, sem_next h3, h4, .value _ _ (.tuple _ _ rfl (fun i h => by simp at h))⟩
      | clear =>
        intro s w r s1 N hF
        simp only [opC] at hF
        split at hF
        · rename_i hc
          exact simO_sem (sim_clear hz hc hargs) s w r s1 N hF
        · cases hF
      | max =>
        intro s w r s1 N hF
        simp only [opC] at hF
        split at hF
        · rename_i hf
          exact simO_free (execOp_same _ (by intros; simp) (hev.free hf)) s w r s1 N hF
        · cases hF
      | min =>
        intro s w r s1 N hF
        simp only [opC] at hF
        split at hF
        · rename_i hf
          exact simO_free (execOp_same _ (by intros; simp) (hev.free hf)) s w r s1 N hF
        · cases hF
      | _ => intro s w x s1 N hF; simp [opC] at hF
    | value fv =>
      have hfv := hev fv (by simp [Op.operands, Call.operands])
      intro s w r s1 N hF
      simp only [opC] at hF
      split at hF
      · rename_i f first captured hfe
        rw [hfe] at hfv
        generalize hq : ev' fv = q at hfv
        cases hfv with
        | func _ _ a' _ c' h1 h2 h3 h4 =>
          have hall : VRs P ρ (first ++ args.map ev ++ captured) (a' ++ args.map ev' ++ c') := (VRs.append (VRs.append ⟨h1, h3⟩ hargs) ⟨h2, h4⟩)
          have := enterC_spec hext (f := f) hall s w r s1 N hF
          have he : execOp ev' ⟨dst, .call ⟨.value fv, args, ats⟩, type, pos, after, guard⟩ = callFunc f (a' ++ args.map ev' ++ c') := by
            simp only [execOp, resolve, hq, Deferred.ofValue]
            rfl
          rw [he]; exact this
      · cases hF
    | invoke r name =>
      have hr := hev r (by simp [Op.operands, Call.operands])
      intro s w x s1 N hF
      simp only [opC] at hF
      split at hF
      · rename_i t y hye
        rw [hye] at hr
        generalize hq : ev' r = q at hr
        cases hr with
        | iface _ _ y' hy =>
          split at hF
          · rename_i f hm
            have hall : VRs P ρ (#[y] ++ args.map ev) (#[y'] ++ args.map ev') := VRs.append (VRs.push .empty hy) hargs
            have h1 := enterC_spec hext (f := f) hall s w x s1 N hF
            intro hR hw hN hl hfree
            obtain ⟨x', w1, ρ1, h2, h3, h4⟩ := h1 hR hw hN hl hfree
            refine ⟨x', w1, ρ1, ?_, h3, h4⟩
            have he : execOp ev' ⟨dst, .call ⟨.invoke r name, args, ats⟩, type, pos, after, guard⟩ = callMethod (.iface t y') name (args.map ev') := by
              simp only [execOp, resolve, hq]
              show invoke (.fn (.method name) #[]) (#[Value.iface t y'] ++ args.map ev') = _
              have e0 : (#[Value.iface t y'] ++ args.map ev')[0]? = some (Value.iface t y') := by simp [Array.getElem?_append]
              have e1 : (#[Value.iface t y'] ++ args.map ev').extract 1 (#[Value.iface t y'] ++ args.map ev').size = args.map ev' := by
                refine Array.ext (by simp) fun i h1 h2 => ?_
                simp
              unfold invoke
              simp only [e0, e1]
            rw [he]
            unfold callMethod
            show (method (P.types.size + Made.depth) t y' name >>= fun q => callFunc q.1 (#[q.2] ++ args.map ev')).run P w = _
            have hfuel : P.types.size + Made.depth = (P.types.size + Made.depth - 1) + 1 := by
              have : 0 < Made.depth := by decide
              omega
            rw [hfuel, run_bindA, methodC_spec hm]
            exact h2
          · cases hF
      · cases hF
  | _ => intro s w x s1 N hF; simp [opC] at hF

end Go.Am
