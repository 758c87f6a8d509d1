import Derived.Test.YtkandjlcimggkaaGreatDoorAmRel
namespace Go.Am
variable {P : Program}

/-- the program's zero values hold no address -/
def zerosFree (P : Program) : Prop := ∀ t i z, P.info? t = some i → i.zero = some z → addrFree 100 z = true

section
variable {ρ : Ren} {α β γ δ : Type} {Post : Ren → α → β → Prop}

theorem sim_und {t : TypeId} {k : TypeDesc → Sem α} {k' : TypeDesc → Sem β} (h : ∀ d, P.underlying t = some d → Sim P (k d) (k' d) ρ Post) :
    Sim P (underlying t >>= k) (underlying t >>= k') ρ Post := by
  intro s w x s1 N hr
  cases hd : P.underlying t with
  | none =>
    exfalso
    rw [runC_bind] at hr
    have : runC P (underlying t) s = none := by
      unfold underlying; rw [runC_bind]; show (runC P (match P.underlying t with | some d => Pure.pure d | none => stuck "no such type") s) = none
      rw [hd]; rfl
    rw [this] at hr; cases hr
  | some d =>
    have e : ∀ (k : TypeDesc → Sem α) s, runC P (underlying t >>= k) s = runC P (k d) s := by
      intro k s
      rw [runC_bind]
      have : runC P (underlying t) s = some (d, s) := by
        unfold underlying; rw [runC_bind]; show (runC P (match P.underlying t with | some d => Pure.pure d | none => stuck "no such type") s) = _
        rw [hd]; rfl
      rw [this]; rfl
    have e' : ∀ w, (underlying t >>= k').run P w = (k' d).run P w := by
      intro w
      rw [run_bindA]
      have : (underlying t).run P w = .ok d w := by
        unfold underlying; rw [run_bindA]; show ((match P.underlying t with | some d => Pure.pure d | none => stuck "no such type" : Sem TypeDesc).run P w) = _
        rw [hd]; rfl
      rw [this]
    rw [e] at hr
    intro h1 h2 h3 h4 h5
    rw [e']
    exact h d hd s w x s1 N hr h1 h2 h3 h4 h5

theorem sim_info {t : TypeId} {k : TypeInfo → Sem α} {k' : TypeInfo → Sem β} (h : ∀ d, P.info? t = some d → Sim P (k d) (k' d) ρ Post) :
    Sim P (typeInfo t >>= k) (typeInfo t >>= k') ρ Post := by
  intro s w x s1 N hr
  cases hd : P.info? t with
  | none =>
    exfalso
    rw [runC_bind] at hr
    have : runC P (typeInfo t) s = none := by
      unfold typeInfo; rw [runC_bind]; show (runC P (match P.info? t with | some d => Pure.pure d | none => stuck "no such type") s) = none
      rw [hd]; rfl
    rw [this] at hr; cases hr
  | some d =>
    have e : ∀ (k : TypeInfo → Sem α) s, runC P (typeInfo t >>= k) s = runC P (k d) s := by
      intro k s
      rw [runC_bind]
      have : runC P (typeInfo t) s = some (d, s) := by
        unfold typeInfo; rw [runC_bind]; show (runC P (match P.info? t with | some d => Pure.pure d | none => stuck "no such type") s) = _
        rw [hd]; rfl
      rw [this]; rfl
    have e' : ∀ w, (typeInfo t >>= k').run P w = (k' d).run P w := by
      intro w
      rw [run_bindA]
      have : (typeInfo t).run P w = .ok d w := by
        unfold typeInfo; rw [run_bindA]; show ((match P.info? t with | some d => Pure.pure d | none => stuck "no such type" : Sem TypeInfo).run P w) = _
        rw [hd]; rfl
      rw [this]
    rw [e] at hr
    intro h1 h2 h3 h4 h5
    rw [e']
    exact h d hd s w x s1 N hr h1 h2 h3 h4 h5
end

theorem Sim.stuck {ρ : Ren} {α β : Type} {Post : Ren → α → β → Prop} {m : String} {S' : Sem β} : Sim P (stuck m : Sem α) S' ρ Post := Sim.halt
theorem Sim.unsupported {ρ : Ren} {α β : Type} {Post : Ren → α → β → Prop} {m : Unsupported} {S' : Sem β} : Sim P (unsupported m : Sem α) S' ρ Post := Sim.halt

theorem Sim.panic {ρ : Ren} {α β : Type} {Post : Ren → α → β → Prop} {e : RuntimeError} {S' : Sem β} : Sim P (runtimePanic e : Sem α) S' ρ Post := by
  intro s w x s1 N hr
  exfalso
  unfold runtimePanic at hr
  rw [runC_bind] at hr
  have h0 : ∀ s, runC P Go.program s = some (P, s) := fun _ => rfl
  rw [h0] at hr
  simp only [Option.bind_some] at hr
  have hg : ∀ (v : Value) s, runC P (goPanic v : Sem α) s = none := fun _ _ => rfl
  cases e <;> simp only [hg] at hr <;> try cases hr
  · rw [runC_bind] at hr
    cases h1 : runC P (elemOf P.rt.typeAssertionError) s with
    | none => rw [h1] at hr; cases hr
    | some p =>
      rw [h1] at hr; simp only [Option.bind_some] at hr
      rw [runC_bind] at hr
      cases h2 : runC P (newVar p.1 (.agg #[_, _, _, _])) p.2 with
      | none => rw [h2] at hr; cases hr
      | some q => rw [h2] at hr; simp only [Option.bind_some, hg] at hr; cases hr
  · rw [runC_bind] at hr
    cases h1 : runC P (elemOf P.rt.panicNilError) s with
    | none => rw [h1] at hr; cases hr
    | some p =>
      rw [h1] at hr; simp only [Option.bind_some] at hr
      rw [runC_bind] at hr
      cases h2 : runC P (newVar p.1 (.agg #[])) p.2 with
      | none => rw [h2] at hr; cases hr
      | some q => rw [h2] at hr; simp only [Option.bind_some, hg] at hr; cases hr

/-- addresses -/
def AR (ρ : Ren) (a a' : Addr) : Prop := ∃ g, ρ a.block = some g ∧ a' = ⟨g.blk, a.off, a.spot⟩
theorem AR.mono {ρ ρ1 : Ren} (hle : Le ρ ρ1) {a a' : Addr} (h : AR ρ a a') : AR ρ1 a a' := let ⟨g, h1, h2⟩ := h; ⟨g, hle _ _ h1, h2⟩
theorem AR.add {ρ : Ren} {a a' : Addr} (h : AR ρ a a') (n : Nat) : AR ρ (a.add n) (a'.add n) := by
  obtain ⟨g, h1, h2⟩ := h
  subst h2
  refine ⟨g, ?_, ?_⟩ <;> unfold Addr.add <;> split <;> first | exact h1 | rfl
theorem AR.vr {ρ : Ren} {a a' : Addr} (h : AR ρ a a') : VR P ρ (.pointer (some a)) (.pointer (some a')) := by
  obtain ⟨g, h1, h2⟩ := h; subst h2; exact .ptr a g h1
theorem VR.ar {ρ : Ren} {a : Addr} {v : Value} (h : VR P ρ (.pointer (some a)) v) : ∃ a', v = .pointer (some a') ∧ AR ρ a a' := by
  cases h with | ptr a g h => exact ⟨_, rfl, g, h, rfl⟩

theorem sim_loadA {ρ : Ren} {a a' : Addr} {m : Mode} (h : AR ρ a a') : Sim P (Go.load a m) (Go.load a' m) ρ (fun ρ1 => VR P ρ1) := by
  obtain ⟨g, h1, h2⟩ := h; subst h2; exact sim_load h1
theorem sim_storeA {ρ : Ren} {a a' : Addr} {m : Mode} {v v' : Value} (h : AR ρ a a') (hv : VR P ρ v v') : Sim P (Go.store a v m) (Go.store a' v' m) ρ (fun _ _ _ => True) := by
  obtain ⟨g, h1, h2⟩ := h; subst h2; exact sim_store h1 hv

theorem sim_sureAddr {ρ : Ren} {v v' : Value} (h : VR P ρ v v') : Sim P (Instr.sureAddr v) (Instr.sureAddr v') ρ (fun ρ1 => AR ρ1) := by
  cases h with
  | ptr a g h => exact Sim.pure ⟨g, h, rfl⟩
  | _ => exact Sim.stuck

theorem sim_loadCellsFrom {a a' : Addr} : ∀ (n i : Nat) (acc acc' : Array Value) (ρ : Ren), AR ρ a a' → VRs P ρ acc acc' →
    Sim P (loadCellsFrom a i n acc) (loadCellsFrom a' i n acc') ρ (fun ρ1 => VRs P ρ1)
  | 0, _, _, _, _, _, hacc => Sim.pure hacc
  | n + 1, i, acc, acc', ρ, ha, hacc => by
    unfold loadCellsFrom
    refine Sim.bind (sim_loadA (ha.add i)) fun ρ1 x x' hle hx => ?_
    exact sim_loadCellsFrom n (i + 1) _ _ ρ1 (ha.mono hle) ((hacc.mono hle).push hx)

theorem sim_loadCells {ρ : Ren} {a a' : Addr} (h : AR ρ a a') (n : Nat) : Sim P (loadCells a n) (loadCells a' n) ρ (fun ρ1 => VRs P ρ1) :=
  sim_loadCellsFrom n 0 _ _ ρ h .empty

theorem sim_storeCells {a a' : Addr} : ∀ (l l' : List Value) (i : Nat) (ρ : Ren), AR ρ a a' → l.length = l'.length → (∀ (j : Nat) (v v' : Value), l[j]? = some v → l'[j]? = some v' → VR P ρ v v') →
    Sim P (storeCells a l i) (storeCells a' l' i) ρ (fun _ _ _ => True)
  | [], [], _, _, _, _, _ => Sim.pure trivial
  | [], _ :: _, _, _, _, h, _ => by simp at h
  | _ :: _, [], _, _, _, h, _ => by simp at h
  | v :: l, v' :: l', i, ρ, ha, hlen, hv => by
    unfold storeCells
    refine Sim.bind (sim_storeA (ha.add i) (hv 0 v v' rfl rfl)) fun ρ1 x x' hle _ => ?_
    exact sim_storeCells l l' (i + 1) ρ1 (ha.mono hle) (by simpa using hlen) fun j u u' h1 h2 => (hv (j + 1) u u' (by simpa using h1) (by simpa using h2)).mono hle

theorem VRs.list {ρ : Ren} {c c' : Array Value} (h : VRs P ρ c c') : c.toList.length = c'.toList.length ∧ ∀ (j : Nat) (v v' : Value), c.toList[j]? = some v → c'.toList[j]? = some v' → VR P ρ v v' := by
  refine ⟨by simpa using h.size, fun j v v' h1 h2 => ?_⟩
  obtain ⟨u, h3, h4⟩ := h.get (i := j) (v := v) (by simpa using h1)
  have : u = v' := by
    have h2' : c'[j]? = some v' := by simpa using h2
    rw [h3] at h2'; exact Option.some.inj h2'
  exact this ▸ h4

theorem sim_isAgg {ρ : Ren} {t : TypeId} : Sim P (isAgg t) (isAgg t) ρ (fun _ x x' => x = x') := by
  unfold isAgg
  refine sim_und fun d _ => ?_
  split <;> exact Sim.pure rfl

theorem sim_sizeOf {ρ : Ren} {t : TypeId} : Sim P (sizeOf t) (sizeOf t) ρ (fun _ x x' => x = x' ∧ ∃ i, P.info? t = some i ∧ i.size = x) := by
  unfold sizeOf
  exact sim_info fun d hd => Sim.pure ⟨rfl, d, hd, rfl⟩

theorem sim_zeroValue (hz : zerosFree P) {ρ : Ren} {t : TypeId} : Sim P (zeroValue t) (zeroValue t) ρ (fun _ x x' => x = x' ∧ addrFree 100 x = true) := by
  unfold zeroValue
  refine sim_info fun d hd => ?_
  split
  · rename_i v hv; exact Sim.pure ⟨rfl, hz _ _ _ hd hv⟩
  · exact Sim.unsupported

theorem sim_loadVar {ρ : Ren} {a a' : Addr} (h : AR ρ a a') (t : TypeId) : Sim P (loadVar t a) (loadVar t a') ρ (fun ρ1 => VR P ρ1) := by
  unfold loadVar
  refine Sim.bind sim_isAgg fun ρ1 x x' hle hx => ?_
  subst hx
  split
  · refine Sim.bind sim_sizeOf fun ρ2 n n' hle2 hn => ?_
    obtain ⟨rfl, _⟩ := hn
    refine Sim.bind (sim_loadCells ((h.mono hle).mono hle2) n) fun ρ3 c c' _ hc => ?_
    exact Sim.pure (.agg c c' hc.size hc.at_)
  · exact sim_loadA (h.mono hle)

theorem sim_storeVar {ρ : Ren} {a a' : Addr} {v v' : Value} (h : AR ρ a a') (hv : VR P ρ v v') (t : TypeId) : Sim P (storeVar t a v) (storeVar t a' v') ρ (fun _ _ _ => True) := by
  unfold storeVar
  refine Sim.bind sim_sizeOf fun ρ1 n n' hle hn => ?_
  obtain ⟨rfl, _⟩ := hn
  have hc := (hv.mono hle).cells
  rw [← hc.size]
  split
  · exact Sim.bind (Mid := fun _ _ _ => True) Sim.stuck fun _ _ _ _ _ => sim_storeCells _ _ 0 _ ((h.mono hle).mono ‹_›) hc.list.1 fun j u u' h1 h2 => (hc.list.2 j u u' h1 h2).mono ‹_›
  · exact sim_storeCells _ _ 0 _ (h.mono hle) hc.list.1 hc.list.2

theorem sim_loadAt {ρ : Ren} {v v' : Value} (h : VR P ρ v v') (t : TypeId) : Sim P (Instr.loadAt t v) (Instr.loadAt t v') ρ (fun ρ1 => VR P ρ1) :=
  Sim.bind (sim_sureAddr h) fun _ _ _ _ ha => sim_loadVar ha t

theorem sim_storeAt {ρ : Ren} {v v' x x' : Value} (h : VR P ρ v v') (hx : VR P ρ x x') (t : TypeId) : Sim P (Instr.storeAt t v x) (Instr.storeAt t v' x') ρ (fun _ _ _ => True) :=
  Sim.bind (sim_sureAddr h) fun _ _ _ hle ha => sim_storeVar ha (hx.mono hle) t

theorem sim_newVar {ρ : Ren} {v v' : Value} (hv : VR P ρ v v') (t : TypeId) : Sim P (newVar t v) (newVar t v') ρ (fun ρ1 => AR ρ1) :=
  (sim_newRow hv.cells).mono fun _ _ _ _ ⟨g, h1, h2, _⟩ => ⟨g, h1, h2⟩

theorem sim_alloc (hz : zerosFree P) {ρ : Ren} (t : TypeId) : Sim P (Instr.alloc t true (.tuple #[])) (Instr.alloc t true (.tuple #[])) ρ (fun ρ1 => VR P ρ1) := by
  unfold Instr.alloc
  refine Sim.bind (sim_zeroValue hz) fun ρ1 z z' hle hz' => ?_
  obtain ⟨rfl, hf⟩ := hz'
  refine Sim.bind (sim_newVar (VR.of_free _ _ hf) t) fun ρ2 a a' _ ha => ?_
  exact Sim.pure ha.vr

theorem sim_box {ρ : Ren} {v v' : Value} (hv : VR P ρ v v') (t : TypeId) : Sim P (Instr.box t v) (Instr.box t v') ρ (fun ρ1 => VR P ρ1) := by
  unfold Instr.box
  exact Sim.bind (sim_newVar hv t) fun ρ2 a a' _ ha => Sim.pure ha.vr

/-- 'fill' does the same on both sides -/
theorem fill_rel {ρ : Ren} (place : Nat → Option (Nat × Nat)) : ∀ (parts parts' : List (Nat × Value)) (c c' : Array Value), VRs P ρ c c' →
    parts.length = parts'.length → (∀ (j : Nat) (p p' : Nat × Value), parts[j]? = some p → parts'[j]? = some p' → p'.1 = p.1 ∧ VR P ρ p.2 p'.2) →
    (Instr.fill place c parts = none ∧ Instr.fill place c' parts' = none) ∨ ∃ d d', Instr.fill place c parts = some d ∧ Instr.fill place c' parts' = some d' ∧ VRs P ρ d d'
  | [], [], c, c', h, _, _ => .inr ⟨c, c', rfl, rfl, h⟩
  | [], _ :: _, _, _, _, h, _ => by simp at h
  | _ :: _, [], _, _, _, h, _ => by simp at h
  | (i, v) :: r, (i', v') :: r', c, c', h, hl, hp => by
    obtain ⟨h1, h2⟩ := hp 0 (i, v) (i', v') rfl rfl
    simp only at h1 h2
    subst h1
    simp only [Instr.fill]
    split
    · exact .inl ⟨rfl, rfl⟩
    · rename_i off size _
      have hs := h2.cells
      rw [← hs.size, ← h.size]
      split
      · exact .inl ⟨rfl, rfl⟩
      · refine fill_rel place r r' _ _ ?_ (by simpa using hl) fun j p p' q1 q2 => hp (j + 1) p p' (by simpa using q1) (by simpa using q2)
        rw [← Array.foldl_toList, ← Array.foldl_toList]
        have key : ∀ (l l' : List Value) (k : Nat) (a a' : Array Value), VRs P ρ a a' → l.length = l'.length → (∀ (j : Nat) (u u' : Value), l[j]? = some u → l'[j]? = some u' → VR P ρ u u') →
            VRs P ρ ((l.zipIdx k).foldl (fun cs (x : Value × Nat) => cs.setIfInBounds (off + x.2) x.1) a) ((l'.zipIdx k).foldl (fun cs (x : Value × Nat) => cs.setIfInBounds (off + x.2) x.1) a') := by
          intro l
          induction l with
          | nil => intro l' k a a' ha hl _; cases l' with | nil => exact ha | cons => simp at hl
          | cons u l ih =>
            intro l' k a a' ha hl hu
            cases l' with
            | nil => simp at hl
            | cons u' l' =>
              simp only [List.zipIdx_cons, List.foldl_cons]
              exact ih l' (k + 1) _ _ (ha.set _ (hu 0 u u' rfl rfl)) (by simpa using hl) fun j x x' q1 q2 => hu (j + 1) x x' (by simpa using q1) (by simpa using q2)
        have := key v.cells.toList v'.cells.toList 0 c c' h hs.list.1 hs.list.2
        simpa [Array.toList_zipIdx] using this

/-- parts of a composite -/
def PartsR (P : Program) (ρ : Ren) (a a' : Array (Nat × Value)) : Prop :=
  a.toList.length = a'.toList.length ∧ ∀ (j : Nat) (p p' : Nat × Value), a.toList[j]? = some p → a'.toList[j]? = some p' → p'.1 = p.1 ∧ VR P ρ p.2 p'.2
theorem PartsR.mono {ρ ρ1 : Ren} (hle : Le ρ ρ1) {a a' : Array (Nat × Value)} (h : PartsR P ρ a a') : PartsR P ρ1 a a' :=
  ⟨h.1, fun j p p' h1 h2 => let ⟨h3, h4⟩ := h.2 j p p' h1 h2; ⟨h3, h4.mono hle⟩⟩

theorem sim_mapM_places {ρ : Ren} : ∀ (fs : List Field), Sim P (fs.mapM fun f => do pure (f.offset, ← sizeOf f.type)) (fs.mapM fun f => do pure (f.offset, ← sizeOf f.type)) ρ (fun _ x x' => x = x')
  | [] => Sim.pure rfl
  | f :: fs => by
    rw [List.mapM_cons]
    refine Sim.bind (Mid := fun _ x x' => x = x') ?_ fun ρ1 x x' hle hx => ?_
    · exact Sim.bind sim_sizeOf fun _ _ _ _ h => Sim.pure (by rw [h.1])
    · subst hx
      exact Sim.bind (sim_mapM_places fs) fun _ _ _ _ h => Sim.pure (by rw [h])

theorem sim_build (hz : zerosFree P) {ρ : Ren} {p p' : Array (Nat × Value)} (hp : PartsR P ρ p p') (t : TypeId) : Sim P (Instr.build t p) (Instr.build t p') ρ (fun ρ1 => VR P ρ1) := by
  unfold Instr.build
  refine Sim.bind (sim_zeroValue hz) fun ρ1 z z' hle hz' => ?_
  obtain ⟨rfl, hf⟩ := hz'
  have hzr : VRs P ρ1 z.cells z.cells := (VR.of_free _ _ hf).cells
  refine sim_und fun d hd => ?_
  split
  · rename_i fields
    refine Sim.bind (Mid := fun _ x x' => x = x') ?_ fun ρ2 pl pl' hle2 hpl => ?_
    · rw [Array.mapM_eq_mapM_toList]
      exact Sim.bind (sim_mapM_places fields.toList) fun _ _ _ _ h => Sim.pure (by rw [h])
    · subst hpl
      rcases fill_rel (P := P) (ρ := ρ2) (pl[·]?) p.toList p'.toList z.cells z.cells (hzr.mono hle2) hp.1 (fun j x x' h1 h2 => let ⟨h3, h4⟩ := hp.2 j x x' h1 h2; ⟨h3, (h4.mono hle).mono hle2⟩) with ⟨h1, h2⟩ | ⟨d, d', h1, h2, h3⟩
      · rw [h1]; exact Sim.stuck
      · rw [h1, h2]; exact Sim.pure (.agg d d' h3.size h3.at_)
  · rename_i n elem
    refine Sim.bind sim_sizeOf fun ρ2 n n' hle2 hn => ?_
    obtain ⟨rfl, _⟩ := hn
    rcases fill_rel (P := P) (ρ := ρ2) (fun i => some (i * n, n)) p.toList p'.toList z.cells z.cells (hzr.mono hle2) hp.1 (fun j x x' h1 h2 => let ⟨h3, h4⟩ := hp.2 j x x' h1 h2; ⟨h3, (h4.mono hle).mono hle2⟩) with ⟨h1, h2⟩ | ⟨d, d', h1, h2, h3⟩
    · rw [h1]; exact Sim.stuck
    · rw [h1, h2]; exact Sim.pure (.agg d d' h3.size h3.at_)
  · exact Sim.stuck

end Go.Am

namespace Go.Am
variable {P : Program}

theorem sim_asBool {ρ : Ren} {v v' : Value} (h : VR P ρ v v') : Sim P (asBool v) (asBool v') ρ (fun _ x x' => x = x') := by
  cases h with
  | bool b => exact Sim.pure rfl
  | _ => exact Sim.stuck

theorem sim_asIntOf {ρ : Ren} {v v' : Value} (h : VR P ρ v v') : Sim P (asIntOf v) (asIntOf v') ρ (fun _ x x' => x = x') := by
  cases h with
  | int k n => exact Sim.pure rfl
  | ptr => exact Sim.unsupported
  | _ => exact Sim.stuck

theorem sim_asInt {ρ : Ren} {v v' : Value} (h : VR P ρ v v') : Sim P (asInt v) (asInt v') ρ (fun _ x x' => x = x') := by
  unfold asInt
  exact Sim.bind (sim_asIntOf h) fun _ _ _ _ e => Sim.pure (by rw [e])

/-- 'n' cells out of a value without an address, again and again -/
theorem cycle_rel {ρ : Ren} {z : Array Value} (hz : VRs P ρ z z) (n : Nat) : VRs P ρ ((Array.range n).map (z[· % z.size]!)) ((Array.range n).map (z[· % z.size]!)) := by
  refine ⟨rfl, fun i h1 h2 => ?_⟩
  simp only [Array.getElem_map, Array.getElem_range]
  rcases Nat.lt_or_ge (i % z.size) z.size with h | h
  · rw [getElem!_pos z _ h]; exact hz.at_ _ h h
  · rw [getElem!_neg z _ (by omega)]; exact VR.of_free 0 _ rfl

theorem sim_buildSlice (hz : zerosFree P) {ρ : Ren} {p p' : Array (Nat × Value)} (hp : PartsR P ρ p p') (t : TypeId) (len : Nat) :
    Sim P (Instr.buildSlice t len p) (Instr.buildSlice t len p') ρ (fun ρ1 => VR P ρ1) := by
  unfold Instr.buildSlice
  refine sim_und fun d hd => ?_
  split
  · rename_i elem
    refine Sim.bind sim_sizeOf fun ρ1 n n' hle hn => ?_
    obtain ⟨rfl, _⟩ := hn
    dsimp only
    have rest : ∀ (ρ3 : Ren) (z : Array Value), Le ρ1 ρ3 → (∀ ρ, VRs P ρ z z) → Sim P
        (match Instr.fill (fun i => some (i * n, n)) ((Array.range (len * n)).map (z[· % z.size]!)) p.toList with
          | some cells => do Pure.pure (Value.slice (some (← newRow elem cells)) len len)
          | _ => stuck "buildSlice: a part of the wrong size")
        (match Instr.fill (fun i => some (i * n, n)) ((Array.range (len * n)).map (z[· % z.size]!)) p'.toList with
          | some cells => do Pure.pure (Value.slice (some (← newRow elem cells)) len len)
          | _ => stuck "buildSlice: a part of the wrong size") ρ3 (fun ρ3 => VR P ρ3) := by
      intro ρ3 z hle3 hzr
      have hp3 := (hp.mono hle).mono hle3
      rcases fill_rel (P := P) (ρ := ρ3) (fun i => some (i * n, n)) p.toList p'.toList _ _ (cycle_rel (hzr ρ3) (len * n)) hp3.1 hp3.2 with ⟨h1, h2⟩ | ⟨d, d', h1, h2, h3⟩
      · rw [h1]; exact Sim.stuck
      · rw [h1, h2]
        refine Sim.bind (sim_newRow h3) fun ρ4 a a' _ ⟨g, q1, q2, q3, q4, _⟩ => ?_
        subst q2
        rw [q4]
        exact Sim.pure (.sl a g len len a.off len q1 q4 (fun _ => rfl) (.inl rfl))
    have body : ∀ (ρ2 : Ren), Le ρ1 ρ2 → Sim P
        (if len * n = 0 then (Pure.pure #[] : Sem (Array Value)) >>= fun zero => (match Instr.fill (fun i => some (i * n, n)) ((Array.range (len * n)).map (zero[· % zero.size]!)) p.toList with
          | some cells => do Pure.pure (Value.slice (some (← newRow elem cells)) len len)
          | _ => stuck "buildSlice: a part of the wrong size") else zeroValue elem >>= fun zv => (Pure.pure zv.cells : Sem (Array Value)) >>= fun zero => (match Instr.fill (fun i => some (i * n, n)) ((Array.range (len * n)).map (zero[· % zero.size]!)) p.toList with
          | some cells => do Pure.pure (Value.slice (some (← newRow elem cells)) len len)
          | _ => stuck "buildSlice: a part of the wrong size"))
        (if len * n = 0 then (Pure.pure #[] : Sem (Array Value)) >>= fun zero => (match Instr.fill (fun i => some (i * n, n)) ((Array.range (len * n)).map (zero[· % zero.size]!)) p'.toList with
          | some cells => do Pure.pure (Value.slice (some (← newRow elem cells)) len len)
          | _ => stuck "buildSlice: a part of the wrong size") else zeroValue elem >>= fun zv => (Pure.pure zv.cells : Sem (Array Value)) >>= fun zero => (match Instr.fill (fun i => some (i * n, n)) ((Array.range (len * n)).map (zero[· % zero.size]!)) p'.toList with
          | some cells => do Pure.pure (Value.slice (some (← newRow elem cells)) len len)
          | _ => stuck "buildSlice: a part of the wrong size")) ρ2 (fun ρ3 => VR P ρ3) := by
      intro ρ2 hle2
      split
      · exact rest ρ2 #[] hle2 fun _ => .empty
      · refine Sim.bind (sim_zeroValue hz) fun ρ3 zv zv' hle3 h => ?_
        obtain ⟨rfl, h2⟩ := h
        exact rest ρ3 zv.cells (hle2.trans hle3) fun _ => (VR.of_free _ _ h2).cells
    split
    · exact Sim.bind (Mid := fun _ _ _ => True) Sim.unsupported fun ρ2 _ _ h2 _ => body ρ2 h2
    · exact body ρ1 (.refl _)
  · exact Sim.stuck

theorem sim_askRoom {ρ : Ren} {n : Nat} : Sim P (askRoom n) (askRoom n) ρ (fun _ _ _ => True) := by
  unfold askRoom
  split
  · exact Sim.mark (S := Pure.pure ()) (S' := Pure.pure ()) (Sim.pure trivial)
  · exact Sim.pure trivial

theorem sim_makeSlice (hz : zerosFree P) {ρ : Ren} {l l' c c' : Value} (hl : VR P ρ l l') (hc : VR P ρ c c') (t : TypeId) :
    Sim P (Instr.makeSlice t l c) (Instr.makeSlice t l' c') ρ (fun ρ1 => VR P ρ1) := by
  unfold Instr.makeSlice
  refine sim_und fun d hd => ?_
  split
  · rename_i elem
    refine Sim.bind (sim_asInt hl) fun ρ1 len len' hle e1 => ?_
    subst e1
    refine Sim.bind (sim_asInt (hc.mono hle)) fun ρ2 cap cap' hle2 e2 => ?_
    subst e2
    refine sim_info fun i hi => ?_
    dsimp only
    have rest : ∀ (ρ3 : Ren) (n : Nat) (z : Array Value), (∀ ρ, VRs P ρ z z) → Sim P
        (newRow elem ((Array.range n).map (z[· % z.size]!)) >>= fun a => Pure.pure (Value.slice (some a) (IntKind.i64.wrap len).toNat (IntKind.i64.wrap cap).toNat))
        (newRow elem ((Array.range n).map (z[· % z.size]!)) >>= fun a => Pure.pure (Value.slice (some a) (IntKind.i64.wrap len).toNat (IntKind.i64.wrap cap).toNat)) ρ3 (fun ρ4 => VR P ρ4) := by
      intro ρ3 n z hzr
      refine Sim.bind (sim_newRow (cycle_rel (hzr ρ3) _)) fun ρ7 a a' _ ⟨g, q1, q2, q3, q4, _⟩ => ?_
      subst q2
      rw [q4]
      exact Sim.pure (.sl a g _ _ a.off _ q1 q4 (fun _ => rfl) (.inl rfl))
    have body : ∀ (ρ3 : Ren), Sim P
        (askRoom ((IntKind.i64.wrap cap).toNat * i.bytes) >>= fun _ => sizeOf elem >>= fun sz =>
          if (IntKind.i64.wrap cap).toNat * sz = 0 then (Pure.pure #[] : Sem (Array Value)) >>= fun z => (newRow elem ((Array.range ((IntKind.i64.wrap cap).toNat * sz)).map (z[· % z.size]!)) >>= fun a => Pure.pure (Value.slice (some a) (IntKind.i64.wrap len).toNat (IntKind.i64.wrap cap).toNat))
          else zeroValue elem >>= fun zv => (Pure.pure zv.cells : Sem (Array Value)) >>= fun z => (newRow elem ((Array.range ((IntKind.i64.wrap cap).toNat * sz)).map (z[· % z.size]!)) >>= fun a => Pure.pure (Value.slice (some a) (IntKind.i64.wrap len).toNat (IntKind.i64.wrap cap).toNat)))
        (askRoom ((IntKind.i64.wrap cap).toNat * i.bytes) >>= fun _ => sizeOf elem >>= fun sz =>
          if (IntKind.i64.wrap cap).toNat * sz = 0 then (Pure.pure #[] : Sem (Array Value)) >>= fun z => (newRow elem ((Array.range ((IntKind.i64.wrap cap).toNat * sz)).map (z[· % z.size]!)) >>= fun a => Pure.pure (Value.slice (some a) (IntKind.i64.wrap len).toNat (IntKind.i64.wrap cap).toNat))
          else zeroValue elem >>= fun zv => (Pure.pure zv.cells : Sem (Array Value)) >>= fun z => (newRow elem ((Array.range ((IntKind.i64.wrap cap).toNat * sz)).map (z[· % z.size]!)) >>= fun a => Pure.pure (Value.slice (some a) (IntKind.i64.wrap len).toNat (IntKind.i64.wrap cap).toNat))) ρ3 (fun ρ4 => VR P ρ4) := by
      intro ρ3
      refine Sim.bind sim_askRoom fun ρ4 _ _ _ _ => ?_
      refine Sim.bind sim_sizeOf fun ρ5 n n' _ hn => ?_
      obtain ⟨rfl, _⟩ := hn
      split
      · exact rest ρ5 _ #[] fun _ => .empty
      · refine Sim.bind (sim_zeroValue hz) fun ρ6 zv zv' _ h => ?_
        obtain ⟨rfl, h2⟩ := h
        exact rest ρ6 _ zv.cells fun _ => (VR.of_free _ _ h2).cells
    split
    · split
      · exact Sim.bind (Mid := fun _ _ _ => True) Sim.panic fun ρ3 _ _ h3 _ => body ρ3
      · split
        · exact Sim.bind (Mid := fun _ _ _ => True) Sim.panic fun ρ3 _ _ h3 _ => body ρ3
        · refine Sim.bind (Mid := fun _ x x' => x = x') ?_ fun ρ3 x x' _ e => ?_
          · intro s w x s1 N hr
            simp [choose, runC, Question.forced] at hr
          · split <;> exact Sim.bind (Mid := fun _ _ _ => True) Sim.panic fun ρ3 _ _ h3 _ => body ρ3
    · exact body ρ2
  · exact Sim.stuck

end Go.Am

namespace Go.Am
variable {P : Program}

/-! ## Runs of the true side -/
section
variable {α : Type} {w : World}
theorem run_undA {t : TypeId} {d : TypeDesc} (h : P.underlying t = some d) (k : TypeDesc → Sem α) : (underlying t >>= k).run P w = (k d).run P w := by
  rw [run_bindA]
  have : (underlying t).run P w = .ok d w := by
    unfold underlying; rw [run_bindA]; show ((match P.underlying t with | some d => Pure.pure d | none => stuck "no such type" : Sem TypeDesc).run P w) = _
    rw [h]; rfl
  rw [this]
theorem run_infoA {t : TypeId} {d : TypeInfo} (h : P.info? t = some d) (k : TypeInfo → Sem α) : (typeInfo t >>= k).run P w = (k d).run P w := by
  rw [run_bindA]
  have : (typeInfo t).run P w = .ok d w := by
    unfold typeInfo; rw [run_bindA]; show ((match P.info? t with | some d => Pure.pure d | none => stuck "no such type" : Sem TypeInfo).run P w) = _
    rw [h]; rfl
  rw [this]
theorem run_sizeA {t : TypeId} {d : TypeInfo} (h : P.info? t = some d) (k : Nat → Sem α) : (sizeOf t >>= k).run P w = (k d.size).run P w := by
  rw [run_bindA]
  have : (sizeOf t).run P w = .ok d.size w := by unfold sizeOf; rw [run_infoA h]; rfl
  rw [this]
theorem run_zeroA {t : TypeId} {d : TypeInfo} {z : Value} (h : P.info? t = some d) (hz : d.zero = some z) (k : Value → Sem α) : (zeroValue t >>= k).run P w = (k z).run P w := by
  rw [run_bindA]
  have : (zeroValue t).run P w = .ok z w := by unfold zeroValue; rw [run_infoA h, hz]; rfl
  rw [this]
theorem run_pureA {β : Type} (x : β) (k : β → Sem α) : ((Pure.pure x : Sem β) >>= k).run P w = (k x).run P w := rfl
theorem run_okA (x : α) : (Pure.pure x : Sem α).run P w = .ok x w := rfl
theorem run_getObjA {r : Nat} {o : Obj} (h : w.heap[r]? = some o) (hc : ∀ c e f, o ≠ .cells c e f) (k : Obj → Sem α) : (getObj r >>= k).run P w = (k o).run P w := by
  rw [run_bindA]
  have : (getObj r).run P w = .ok o w := by
    unfold getObj; simp only [Sem.run, h]
    try (cases o <;> first | rfl | exact absurd rfl (hc _ _ _))
  rw [this]
theorem run_setObjA {r : Nat} {o o' : Obj} (h : w.heap[r]? = some o) (hc : ∀ c e f, o ≠ .cells c e f) : (setObj r o').run P w = .ok () { w with heap := w.heap.setIfInBounds r o' } := by
  unfold setObj; simp only [Sem.run, h]
  try (cases o <;> first | rfl | exact absurd rfl (hc _ _ _))
end

/-- results of operations -/
inductive NR (P : Program) (ρ : Ren) : Next → Next → Prop
  | value (v v' : Value) (h : VR P ρ v v') : NR P ρ (.value v) (.value v')
  | skip : NR P ρ .skip .skip
  | enter (f : FuncId) (a a' : Array Value) (h : VRs P ρ a a') : NR P ρ (.enter f a) (.enter f a')

/-- 'the true side does what this canonical step does' -/
abbrev SimO (P : Program) (F : St → Option (Next × St)) (S' : Sem Next) (ρ : Ren) : Prop := SimF P F S' ρ (NR P)

theorem SimF.of_sim {α β : Type} {S : Sem α} {S' : Sem β} {ρ : Ren} {Post : Ren → α → β → Prop} (h : Sim P S S' ρ Post) : SimF P (runC P S) S' ρ Post := h

theorem SimO.val {F : St → Option (Next × St)} {S' : Sem Next} {ρ : Ren}
    (h : ∀ s w x s1, F s = some (x, s1) → R P ρ s w → WF s → s1 = s ∧ ∃ v v', x = .value v ∧ S'.run P w = .ok (.value v') w ∧ VR P ρ v v') : SimO P F S' ρ := by
  intro s w x s1 N hF hR hw _ _ _
  obtain ⟨rfl, v, v', rfl, h1, h2⟩ := h s w x s1 hF hR hw
  exact ⟨_, w, ρ, h1, .refl hR hw, .value _ _ h2⟩

/-- what a run gives that neither reads nor writes -/
theorem pureRun_run {α : Type} (S : Sem α) : ∀ x, pureRun P S = some x → ∀ w, S.run P w = .ok x w := by
  induction S with
  | pure a => intro x h w; simp [pureRun] at h; simp [Sem.run, h]
  | program k ih => intro x h w; simp only [pureRun] at h; simp only [Sem.run]; exact ih _ _ h w
  | mark m k ih => intro x h w; simp only [pureRun] at h; simp only [Sem.run]; exact ih _ h w
  | choose q k ih =>
    intro x h w; simp only [pureRun] at h
    split at h
    · rename_i hq; simp only [Sem.run, hq, if_true]; exact ih _ _ h w
    · cases h
  | _ => intros; rename_i h _; simp [pureRun] at h

theorem freeRun_spec {S : Sem Next} {v : Value} (h : freeRun P S = some v) : (∀ w, S.run P w = .ok (.value v) w) ∧ ∀ ρ, VR P ρ v v := by
  unfold freeRun at h
  split at h
  · rename_i u hu
    split at h
    · rename_i hf; cases h
      exact ⟨pureRun_run _ _ hu, fun ρ => VR.of_free _ _ hf⟩
    · cases h
  · cases h

/-- operands, one by one -/
def EvR (P : Program) (ρ : Ren) (ev ev' : Operand → Value) (l : List Operand) : Prop := ∀ x ∈ l, VR P ρ (ev x) (ev' x)

theorem EvR.free {ρ : Ren} {ev ev' : Operand → Value} {l : List Operand} (h : EvR P ρ ev ev' l) (hf : allFree ev l = true) : ∀ x ∈ l, ev' x = ev x := by
  intro x hx
  simp only [allFree, List.all_eq_true] at hf
  exact (h x hx).eq_of_free 100 (hf x hx)

/-! ## Operations that only look at their operands -/
theorem fieldC_spec {ρ : Ren} {st : TypeId} {x x' : Value} {f : Nat} {v : Value} (h : fieldC P st x f = some v) (hx : VR P ρ x x') :
    ∃ v', (∀ w, (Instr.fieldAt st x' f).run P w = .ok v' w) ∧ VR P ρ v v' := by
  unfold fieldC at h
  split at h
  · rename_i fields a hd
    split at h
    · rename_i fl hfl
      split at h
      · rename_i i hi
        split at h
        · cases h
        · rename_i hsz; cases h
          obtain ⟨a', rfl, ha⟩ := hx.ar
          refine ⟨_, fun w => ?_, (ha.add fl.offset).vr⟩
          unfold Instr.fieldAt
          rw [run_undA hd]
          simp only [hfl]
          show ((Instr.sureAddr (.pointer (some a')) >>= fun a => fieldPlace a fl >>= fun p => Pure.pure (Value.pointer (some p))).run P w) = _
          unfold Instr.sureAddr fieldPlace
          simp only [pure_bind, bind_assoc]
          rw [run_sizeA hi, if_neg hsz]
          rfl
      · cases h
    · cases h
  · cases h

theorem indexC_spec {ρ : Ren} {t : TypeId} {x x' i i' : Value} {v : Value} (h : indexC P t x i = some v) (hx : VR P ρ x x') (hi : VR P ρ i i') :
    ∃ v', (∀ w, (Instr.indexAt t x' i').run P w = .ok v' w) ∧ VR P ρ v v' := by
  unfold indexC at h
  split at h
  · rename_i len elem a k n hd
    split at h
    · rename_i ei hei
      split at h
      · rename_i hb; cases h
        obtain ⟨a', rfl, ha⟩ := hx.ar
        cases hi with
        | int k n =>
          refine ⟨_, fun w => ?_, (ha.add _).vr⟩
          unfold Instr.indexAt asIntOf Instr.sureAddr
          simp only [pure_bind]
          rw [run_undA hd]
          simp only [pure_bind]
          rw [run_undA hd]
          simp only [if_pos hb]
          rw [run_sizeA hei]; rfl
      · cases h
    · cases h
  · rename_i elem a len cap k n hd
    split at h
    · rename_i ei hei
      split at h
      · rename_i hb; cases h
        cases hx with
        | sl a g l c o c' hg hs ho hc =>
          cases hi with
          | int k n =>
            have hoff : o = a.off := ho (.inr (.inl (by omega)))
            subst hoff
            have ha : AR ρ a ⟨g.blk, a.off, none⟩ := ⟨g, hg, by rw [hs]⟩
            refine ⟨_, fun w => ?_, (ha.add _).vr⟩
            unfold Instr.indexAt asIntOf
            simp only [pure_bind]
            rw [run_undA hd]
            simp only
            rw [run_undA hd]
            simp only [if_pos hb]
            rw [run_sizeA hei]; rfl
      · cases h
    · cases h
  · cases h

theorem typeAssertC_spec (hz : zerosFree P) {ρ : Ren} {x x' : Value} {xt t : TypeId} {ok : Bool} {v : Value} (h : typeAssertC P x t ok = some v) (hx : VR P ρ x x') :
    ∃ v', (∀ w, (Instr.typeAssert x' xt t ok).run P w = .ok v' w) ∧ VR P ρ v v' := by
  have pair : ∀ {a a' : Value} (b : Bool), VR P ρ a a' → VR P ρ (.tuple #[a, .bool b]) (.tuple #[a', .bool b]) := fun b ha =>
    .tuple _ _ rfl (VRs.push (VRs.push .empty ha) (.bool b)).at_
  unfold typeAssertC at h
  split at h
  · rename_i want dt dv hd
    split at h
    · rename_i ti hti
      cases hx with
      | iface _ _ v1 hv =>
      split at h
      · rename_i hm; cases h
        refine ⟨if ok = true then .tuple #[.iface dt v1, .bool true] else .iface dt v1, fun w => ?_, ?_⟩
        · unfold Instr.typeAssert
          rw [run_undA hd]
          simp only
          rw [run_infoA hti]
          simp only [hm]; rfl
        · split
          · exact pair true (.iface _ _ _ hv)
          · exact .iface _ _ _ hv
      · rename_i m hm
        split at h
        · rename_i hok
          split at h
          · rename_i z hzz; cases h
            cases hia : P.info? t with
            | none => rw [hia] at hzz; cases hzz
            | some ia =>
              rw [hia] at hzz
              have hzz' : ia.zero = some z := hzz
              refine ⟨_, fun w => ?_, pair false (VR.of_free 100 z (hz t ia z hia hzz'))⟩
              unfold Instr.typeAssert
              rw [run_undA hd]
              simp only
              rw [run_infoA hti]
              simp only [hm, hok, if_true]
              rw [run_zeroA hia hzz']; rfl
          · cases h
        · cases h
    · cases h
  · cases h
  · rename_i d dt dv hni hd
    split at h
    · rename_i ht; cases h
      cases hx with
      | iface _ _ v1 hv =>
      refine ⟨if ok = true then .tuple #[v1, .bool true] else v1, fun w => ?_, ?_⟩
      · unfold Instr.typeAssert
        rw [run_undA hd]
        cases d with
        | interface want => exact (hni _ rfl).elim
        | _ => simp only [if_pos ht]; rfl
      · split
        · exact pair true hv
        · exact hv
    · cases h
  · cases h

end Go.Am

namespace Go.Am
variable {P : Program}

/-! ## Maps -/
/-- entries that are the same but for names -/
structure ER (P : Program) (ρ : Ren) (a a' : Array MapEntry) : Prop where
  size : a.size = a'.size
  at_ : ∀ (i : Nat) (e : MapEntry), a[i]? = some e → ∃ e' : MapEntry, a'[i]? = some e' ∧ e'.born = e.born ∧ VR P ρ e.key e'.key ∧ VR P ρ e.val e'.val

theorem ER.empty {ρ : Ren} : ER P ρ #[] #[] := ⟨rfl, fun i e h => by simp at h⟩
theorem ER.cons {ρ : Ren} {a a' : Array MapEntry} (h : ER P ρ a a') : ∀ (l l' : List MapEntry), a.toList = l → a'.toList = l' → l.length = l'.length ∧
    ∀ (i : Nat) (e : MapEntry), l[i]? = some e → ∃ e' : MapEntry, l'[i]? = some e' ∧ e'.born = e.born ∧ VR P ρ e.key e'.key ∧ VR P ρ e.val e'.val := by
  intro l l' h1 h2
  subst h1; subst h2
  exact ⟨by simpa using h.size, fun i e he => by
    obtain ⟨e', h3, h4⟩ := h.at_ i e (by simpa using he)
    exact ⟨e', by simpa using h3, h4⟩⟩

theorem simpleKey_eq {ρ : Ren} {kind : TypeDesc} {k k' : Value} (h : simpleKey kind k = true) (hk : VR P ρ k k') : k = k' := by
  cases kind <;> cases hk <;> simp [simpleKey] at h <;> rfl

/-- the search by a simple key comes to the same place -/
theorem findNow_rel {ρ : Ren} {kind : TypeDesc} {k : Value} : ∀ (l l' : List MapEntry) (i : Nat) (r : Option (Nat × Value)),
    l.length = l'.length → (∀ (j : Nat) (e : MapEntry), l[j]? = some e → ∃ e' : MapEntry, l'[j]? = some e' ∧ e'.born = e.born ∧ VR P ρ e.key e'.key ∧ VR P ρ e.val e'.val) →
    Instr.findNow kind k l i = some r →
    (r = none ∧ Instr.findNow kind k l' i = some none) ∨ ∃ j v v', r = some (j, v) ∧ Instr.findNow kind k l' i = some (some (j, v')) ∧ VR P ρ v v' ∧ i ≤ j ∧ j < i + l.length
  | [], [], i, r, _, _, h => by simp [Instr.findNow] at h; exact .inl ⟨h.symm, rfl⟩
  | [], _ :: _, _, _, h, _, _ => by simp at h
  | _ :: _, [], _, _, h, _, _ => by simp at h
  | e :: l, e' :: l', i, r, hl, hr, h => by
    obtain ⟨e2, h1, _, h3, h4⟩ := hr 0 e rfl
    have : e2 = e' := by simpa using h1.symm
    subst this
    simp only [Instr.findNow] at h ⊢
    have hsame : Instr.sameNow kind k e2.key = Instr.sameNow kind k e.key := by
      cases hs : Instr.sameNow kind k e.key with
      | none => rw [hs] at h; cases h
      | some b =>
        have : e2.key = e.key := by
          unfold Instr.sameNow at hs
          split at hs
          · rename_i heq; rw [heq] at h3 ⊢; generalize e2.key = q at h3 ⊢; cases h3; rfl
          · rename_i heq; rw [heq] at h3 ⊢; generalize e2.key = q at h3 ⊢; cases h3; rfl
          · rename_i heq; rw [heq] at h3 ⊢; generalize e2.key = q at h3 ⊢; cases h3; rfl
          · cases hs
        rw [this]; exact hs
    rw [hsame]
    cases hs : Instr.sameNow kind k e.key with
    | none => rw [hs] at h; cases h
    | some b =>
      rw [hs] at h
      cases b with
      | true =>
        simp only [Option.some.injEq] at h ⊢
        exact .inr ⟨i, e.val, e2.val, h.symm, rfl, h4, Nat.le_refl _, by simp⟩
      | false =>
        simp only at h ⊢
        rcases findNow_rel l l' (i + 1) r (by simpa using hl) (fun j x hx => hr (j + 1) x (by simpa using hx)) h with ⟨h5, h6⟩ | ⟨j, v, v', h5, h6, h7, h8, h9⟩
        · exact .inl ⟨h5, h6⟩
        · exact .inr ⟨j, v, v', h5, h6, h7, by omega, by simp only [List.length_cons]; omega⟩

theorem checkKey_run {kind : TypeDesc} {kt : TypeId} {k : Value} (hk : P.underlying kt = some kind) (h : simpleKey kind k = true) (b : Bool) {α : Type} (c : Unit → Sem α) (w : World) :
    (Instr.checkKey b 10000 kt k >>= c).run P w = (c ()).run P w := by
  rw [run_bindA]
  have : (Instr.checkKey b 10000 kt k).run P w = .ok () w := by
    unfold Instr.checkKey
    rw [run_undA hk]
    cases kind <;> cases k <;> simp [simpleKey] at h <;> rfl
  rw [this]

theorem findKey_run {kind : TypeDesc} {kt : TypeId} {k : Value} {es : List MapEntry} {r : Option (Nat × Value)} (hk : P.underlying kt = some kind) (h : Instr.findNow kind k es 0 = some r) {α : Type} (c : Option (Nat × Value) → Sem α) (w : World) :
    (Instr.findKey kt k es >>= c).run P w = (c r).run P w := by
  rw [run_bindA]
  have : (Instr.findKey kt k es).run P w = .ok r w := by
    unfold Instr.findKey
    rw [run_undA hk, h]; rfl
  rw [this]

/-- a known map lies there -/
theorem map_of {ρ : Ren} {s : St} {w : World} (hR : R P ρ s w) {r : Nat} {g : G} (hg : ρ r = some g) {es : Array MapEntry} {c : Nat} (h : s.get r = some (.map es c)) :
    ∃ es', w.heap[g.blk]? = some (.map es' c) ∧ ER P ρ es es' := by
  have ho := hR.obj r g _ hg h
  unfold OR at ho
  split at ho
  · rename_i heq _; cases heq
  · rename_i heq1 heq2; cases heq1
    obtain ⟨h1, h2, h3⟩ := ho
    subst h1
    exact ⟨_, heq2, h2, h3⟩
  · rename_i heq _; cases heq
  · rename_i heq _; cases heq
  · simp [isDead] at ho

theorem entries_of {ρ : Ren} {s : St} {w : World} (hR : R P ρ s w) {m m' : Value} (hm : VR P ρ m m') {es : Array MapEntry} (h : entriesC s m = some es) :
    (m' = .map none ∧ es = #[]) ∨ ∃ r es' c, m' = .map (some r) ∧ w.heap[r]? = some (.map es' c) ∧ ER P ρ es es' := by
  unfold entriesC at h
  split at h
  · cases h; cases hm; exact .inl ⟨rfl, rfl⟩
  · rename_i r
    split at h
    · rename_i es1 c hs; cases h
      cases hm with
      | map r g hg =>
        obtain ⟨es', h1, h2⟩ := map_of hR hg hs
        exact .inr ⟨_, es', c, rfl, h1, h2⟩
    · cases h
  · cases h

theorem pairVR {ρ : Ren} {a a' b b' : Value} (h : VR P ρ a a') (h' : VR P ρ b b') : VR P ρ (.tuple #[a, b]) (.tuple #[a', b']) :=
  .tuple _ _ rfl (VRs.push (VRs.push .empty h) h').at_

theorem info_zero {t : TypeId} {z : Value} (h : (P.info? t).bind (·.zero) = some z) : ∃ i, P.info? t = some i ∧ i.zero = some z := by
  cases hi : P.info? t with
  | none => rw [hi] at h; cases h
  | some i => rw [hi] at h; exact ⟨i, rfl, h⟩

theorem lookupC_spec (hz : zerosFree P) {ρ : Ren} {s : St} {w : World} {xt : TypeId} {m m' k k' v : Value} {ok : Bool} (hR : R P ρ s w) (h : lookupC P xt m k ok s = some v) (hm : VR P ρ m m') (hk : VR P ρ k k') :
    ∃ v', (Instr.lookup xt m' k' ok).run P w = .ok v' w ∧ VR P ρ v v' := by
  unfold lookupC at h
  split at h
  · rename_i kt elem hd
    split at h
    · rename_i kind es hkd hes
      split at h
      · rename_i hsk
        have hk' := simpleKey_eq hsk hk
        subst hk'
        -- what the two sides read
        have key : ∀ es', ER P ρ es es' → ∃ v', ((do
            Instr.checkKey es'.isEmpty 10000 kt k
            let (v, ok1) ← match ← Instr.findKey kt k es'.toList with
              | some (_, v) => Pure.pure (v, true)
              | none => Pure.pure (← zeroValue elem, false)
            Pure.pure (if ok then .tuple #[v, .bool ok1] else v) : Sem Value).run P w) = .ok v' w ∧ VR P ρ v v' := by
          intro es' her
          obtain ⟨hl, hr⟩ := her.cons _ _ rfl rfl
          rw [checkKey_run hkd hsk]
          split at h
          · rename_i i u hf
            rcases findNow_rel _ _ 0 _ hl hr hf with ⟨h1, _⟩ | ⟨j, u1, u', h1, h2, h3, _, _⟩
            · cases h1
            · cases h1
              cases h
              refine ⟨if ok = true then .tuple #[u', .bool true] else u', ?_, ?_⟩
              · rw [findKey_run hkd h2]; rfl
              · split
                · exact pairVR h3 (.bool true)
                · exact h3
          · rename_i hf
            rcases findNow_rel _ _ 0 _ hl hr hf with ⟨_, h2⟩ | ⟨j, u1, u', h1, _⟩
            · split at h
              · rename_i z hzz; cases h
                obtain ⟨ie, hie, hze⟩ := info_zero hzz
                have hzf := VR.of_free (P := P) (ρ := ρ) 100 z (hz _ _ _ hie hze)
                refine ⟨if ok = true then .tuple #[z, .bool false] else z, ?_, ?_⟩
                · rw [findKey_run hkd h2]
                  simp only [pure_bind]
                  rw [run_zeroA hie hze]; rfl
                · split
                  · exact pairVR hzf (.bool false)
                  · exact hzf
              · cases h
            · cases h1
          · cases h
        rcases entries_of hR hm hes with ⟨rfl, rfl⟩ | ⟨r, es', c, rfl, h1, h2⟩
        · obtain ⟨v', h3, h4⟩ := key #[] .empty
          refine ⟨v', ?_, h4⟩
          unfold Instr.lookup
          rw [run_undA hd]
          exact h3
        · obtain ⟨v', h3, h4⟩ := key es' h2
          refine ⟨v', ?_, h4⟩
          unfold Instr.lookup
          rw [run_undA hd]
          simp only
          rw [run_getObjA h1 (by intros; simp)]
          exact h3
      · cases h
    · cases h
  · cases h

end Go.Am

namespace Go.Am
variable {P : Program}

theorem ER.of_get {ρ : Ren} {a a' : Array MapEntry} (hs : a.size = a'.size) (h : ∀ (i : Nat) (e : MapEntry), a[i]? = some e → ∃ e' : MapEntry, a'[i]? = some e' ∧ e'.born = e.born ∧ VR P ρ e.key e'.key ∧ VR P ρ e.val e'.val) : ER P ρ a a' := ⟨hs, h⟩

theorem ER.push {ρ : Ren} {a a' : Array MapEntry} (h : ER P ρ a a') {k k' v v' : Value} {b : Nat} (hk : VR P ρ k k') (hv : VR P ρ v v') :
    ER P ρ (a.push ⟨k, v, b⟩) (a'.push ⟨k', v', b⟩) := by
  refine .of_get (by simp [h.size]) fun i e he => ?_
  rw [Array.getElem?_push] at he ⊢
  have := h.size
  by_cases hi : i = a.size
  · rw [if_pos hi] at he; cases he
    rw [if_pos (by omega)]; exact ⟨_, rfl, rfl, hk, hv⟩
  · rw [if_neg hi] at he; rw [if_neg (by omega)]; exact h.at_ i e he

theorem ER.modify {ρ : Ren} {a a' : Array MapEntry} (h : ER P ρ a a') (i : Nat) (f f' : MapEntry → MapEntry)
    (hf : ∀ e e' : MapEntry, e'.born = e.born → VR P ρ e.key e'.key → VR P ρ e.val e'.val → (f' e').born = (f e).born ∧ VR P ρ (f e).key (f' e').key ∧ VR P ρ (f e).val (f' e').val) :
    ER P ρ (a.modify i f) (a'.modify i f') := by
  refine .of_get (by simp [h.size]) fun j e he => ?_
  rw [Array.getElem?_modify] at he ⊢
  by_cases hij : i = j
  · rw [if_pos hij] at he ⊢
    cases ha : a[j]? with
    | none => rw [ha] at he; cases he
    | some e0 =>
      rw [ha] at he; cases he
      obtain ⟨e', h1, h2, h3, h4⟩ := h.at_ j e0 ha
      rw [h1]
      obtain ⟨h5, h6, h7⟩ := hf e0 e' h2 h3 h4
      exact ⟨_, rfl, h5, h6, h7⟩
  · rw [if_neg hij] at he ⊢; exact h.at_ j e he

theorem ER.erase {ρ : Ren} {a a' : Array MapEntry} (h : ER P ρ a a') (i : Nat) : ER P ρ (a.eraseIdxIfInBounds i) (a'.eraseIdxIfInBounds i) := by
  have hs := h.size
  unfold Array.eraseIdxIfInBounds
  by_cases hi : i < a.size
  · rw [dif_pos hi, dif_pos (hs ▸ hi)]
    refine .of_get (by simp [hs]) fun j e he => ?_
    rw [Array.getElem?_eraseIdx] at he ⊢
    split at he
    · rw [if_pos ‹_›]; exact h.at_ j e he
    · rw [if_neg ‹_›]; exact h.at_ (j + 1) e he
  · rw [dif_neg hi, dif_neg (hs ▸ hi)]; exact h

theorem ba_beq (a b : ByteArray) : (a == b) = true ↔ a = b := by
  constructor
  · intro h
    have h' : (a.data == b.data) = true := h
    exact ByteArray.ext (by simpa using h')
  · rintro rfl
    show (a.data == a.data) = true
    simp

/-- a map's object is replaced -/
theorem out_map {ρ : Ren} {s : St} {w : World} (hR : R P ρ s w) (hw : WF s) {r : Nat} {g : G} {es es1 es1' : Array MapEntry} {c c1 : Nat} (hg : ρ r = some g)
    (hs : s.get r = some (.map es c)) (her : ER P ρ es1 es1') :
    Out P ρ s w ρ (s.put r (.map es1 c1)) { w with heap := w.heap.setIfInBounds g.blk (.map es1' c1) } := by
  have hlt := hR.lt _ _ hg
  refine Out.of_put hR hw hg hs rfl rfl (by simp) ?_ ?_ rfl rfl rfl
  · show OR P ρ g (.map es1 c1) (w.heap.setIfInBounds g.blk (.map es1' c1))[g.blk]?
    rw [Array.getElem?_setIfInBounds, if_pos rfl, if_pos hlt]
    exact ⟨rfl, her.size, her.at_⟩
  · intro k hk
    show (w.heap.setIfInBounds g.blk (.map es1' c1))[k]? = _
    rw [Array.getElem?_setIfInBounds, if_neg (fun h => hk h.symm)]

theorem keyStays_run {k : Value} {kind : TypeDesc} (h : simpleKey kind k = true) {α : Type} (c : Value → Sem α) (w : World) : (Instr.keyThatStays k k >>= c).run P w = (c k).run P w := by
  rw [run_bindA]
  have : (Instr.keyThatStays k k).run P w = .ok k w := by
    unfold Instr.keyThatStays
    have hb : Instr.sameBits 10000 k k = true := by cases kind <;> cases k <;> simp [simpleKey] at h <;> simp [Instr.sameBits, ba_beq]
    rw [if_pos hb]; rfl
  rw [this]

/-- where the search comes to, the key is the one that was sought -/
theorem findNow_key {kind : TypeDesc} {k : Value} (hk : simpleKey kind k = true) : ∀ (l : List MapEntry) (i j : Nat) (v : Value), Instr.findNow kind k l i = some (some (j, v)) → i ≤ j ∧ ∃ e, l[j - i]? = some e ∧ e.key = k ∧ e.val = v
  | [], i, j, v, h => by simp [Instr.findNow] at h
  | e :: l, i, j, v, h => by
    simp only [Instr.findNow] at h
    cases hs : Instr.sameNow kind k e.key with
    | none => rw [hs] at h; cases h
    | some b =>
      rw [hs] at h
      cases b with
      | true =>
        simp only [Option.some.injEq, Prod.mk.injEq] at h
        obtain ⟨rfl, rfl⟩ := h
        refine ⟨Nat.le_refl _, e, by simp, ?_, rfl⟩
        unfold Instr.sameNow at hs
        split at hs
        · rename_i heq
          split at hs
          · rename_i hkk; subst hkk
            have hab := eq_of_beq (Option.some.inj hs)
            subst hab; exact heq
          · cases hs
        · rename_i heq
          have hab := (ba_beq _ _).1 (Option.some.inj hs)
          subst hab; exact heq
        · rename_i heq
          have hab := eq_of_beq (Option.some.inj hs)
          subst hab; exact heq
        · cases hs
      | false =>
        obtain ⟨h1, e', h2, h3⟩ := findNow_key hk l (i + 1) j v h
        refine ⟨by omega, e', ?_, h3⟩
        have : j - i = (j - (i + 1)) + 1 := by omega
        rw [this]; simpa using h2

theorem getD_key {kind : TypeDesc} {k : Value} {es : Array MapEntry} (hk : simpleKey kind k = true) {i : Nat} {v : Value} (h : Instr.findNow kind k es.toList 0 = some (some (i, v))) :
    ((es[i]?).map (·.key)).getD k = k := by
  obtain ⟨_, e, h1, h2, _⟩ := findNow_key hk _ _ _ _ h
  have : es[i]? = some e := by simpa using h1
  rw [this]; exact h2

theorem mapUpdateC_spec {ρ : Ren} {s s1 : St} {w : World} {mt : TypeId} {m m' k k' v v' : Value} (hR : R P ρ s w) (hw : WF s) (h : mapUpdateC P mt m k v s = some s1)
    (hm : VR P ρ m m') (hk : VR P ρ k k') (hv : VR P ρ v v') : ∃ w1, (Instr.mapUpdate mt m' k' v').run P w = .ok () w1 ∧ Out P ρ s w ρ s1 w1 := by
  unfold mapUpdateC at h
  split at h
  · rename_i kt et r hd
    split at h
    · rename_i kind es clock hkd hes
      split at h
      · rename_i hsk
        have hk' := simpleKey_eq hsk hk
        subst hk'
        cases hm with
        | map r g hg =>
          obtain ⟨es', h1, her⟩ := map_of hR hg hes
          obtain ⟨hl, hr⟩ := her.cons _ _ rfl rfl
          have start : ∀ {α : Type} (c : Unit → Sem α), True := fun _ => trivial
          split at h
          · rename_i i u hf; cases h
            rcases findNow_rel _ _ 0 _ hl hr hf with ⟨h2, _⟩ | ⟨j, u1, u', h2, h3, _, _, _⟩
            · cases h2
            · cases h2
              refine ⟨_, ?_, out_map hR hw hg hes (her.modify i (fun e => { e with key := k, val := v }) (fun e => { e with key := k, val := v' }) fun e e' h4 _ _ => ⟨h4, hk, hv⟩)⟩
              unfold Instr.mapUpdate
              rw [run_undA hd]
              simp only
              rw [run_getObjA h1 (by intros; simp)]
              simp only
              rw [checkKey_run hkd hsk, findKey_run hkd h3]
              simp only
              rw [getD_key hsk h3, keyStays_run hsk]
              exact run_setObjA h1 (by intros; simp)
          · rename_i hf; cases h
            rcases findNow_rel _ _ 0 _ hl hr hf with ⟨_, h3⟩ | ⟨j, u1, u', h2, _⟩
            · refine ⟨_, ?_, out_map hR hw hg hes (her.push hk hv)⟩
              unfold Instr.mapUpdate
              rw [run_undA hd]
              simp only
              rw [run_getObjA h1 (by intros; simp)]
              simp only
              rw [checkKey_run hkd hsk, findKey_run hkd h3]
              exact run_setObjA h1 (by intros; simp)
            · cases h2
          · cases h
      · cases h
    · cases h
  · cases h

theorem deleteC_spec {ρ : Ren} {s s1 : St} {w : World} {ts : Array TypeId} {t : TypeId} {as as' : Array Value} (hR : R P ρ s w) (hw : WF s) (h : deleteC P ts as s = some s1)
    (ha : VRs P ρ as as') : ∃ w1, (Builtin.delete_ ts t as').run P w = .ok (.tuple #[]) w1 ∧ Out P ρ s w ρ s1 w1 := by
  unfold deleteC at h
  split at h
  · rename_i mt r k ht h0 hk0
    split at h
    · rename_i kt et hd
      split at h
      · rename_i kind es clock hkd hes
        split at h
        · rename_i hsk
          obtain ⟨m', hm1, hm⟩ := ha.get h0
          obtain ⟨k', hk1, hk⟩ := ha.get hk0
          have hk' := simpleKey_eq hsk hk
          subst hk'
          cases hm with
          | map r g hg =>
            obtain ⟨es', h1, her⟩ := map_of hR hg hes
            obtain ⟨hl, hr⟩ := her.cons _ _ rfl rfl
            split at h
            · rename_i i u hf; cases h
              rcases findNow_rel _ _ 0 _ hl hr hf with ⟨h2, _⟩ | ⟨j, u1, u', h2, h3, _, _, _⟩
              · cases h2
              · cases h2
                refine ⟨_, ?_, out_map hR hw hg hes (her.erase i)⟩
                unfold Builtin.delete_
                simp only [ht, hm1, hk1]
                rw [run_undA hd]
                simp only
                rw [run_getObjA h1 (by intros; simp)]
                simp only
                rw [checkKey_run hkd hsk, findKey_run hkd h3]
                simp only
                rw [run_bindA, run_setObjA h1 (by intros; simp)]; rfl
            · rename_i hf; cases h
              rcases findNow_rel _ _ 0 _ hl hr hf with ⟨_, h3⟩ | ⟨j, u1, u', h2, _⟩
              · refine ⟨_, ?_, out_map hR hw hg hes her⟩
                unfold Builtin.delete_
                simp only [ht, hm1, hk1]
                rw [run_undA hd]
                simp only
                rw [run_getObjA h1 (by intros; simp)]
                simp only
                rw [checkKey_run hkd hsk, findKey_run hkd h3]
                simp only
                rw [run_bindA, run_setObjA h1 (by intros; simp)]; rfl
              · cases h2
            · cases h
        · cases h
      · cases h
    · cases h
  · cases h

theorem mapEntryC_spec (hz : zerosFree P) {ρ : Ren} {s s1 : St} {w : World} {mt : TypeId} {m m' k k' v : Value} (hR : R P ρ s w) (hw : WF s) (h : mapEntryC P mt m k s = some (v, s1))
    (hm : VR P ρ m m') (hk : VR P ρ k k') : ∃ v' w1, (Instr.mapEntry mt m' k').run P w = .ok v' w1 ∧ Out P ρ s w ρ s1 w1 ∧ VR P ρ v v' := by
  unfold mapEntryC at h
  split at h
  · rename_i kt et r hd
    split at h
    · rename_i kind es clock hkd hes
      split at h
      · rename_i hsk
        have hk' := simpleKey_eq hsk hk
        subst hk'
        cases hm with
        | map r g hg =>
          obtain ⟨es', h1, her⟩ := map_of hR hg hes
          obtain ⟨hl, hr⟩ := her.cons _ _ rfl rfl
          split at h
          · rename_i i u hf; cases h
            rcases findNow_rel _ _ 0 _ hl hr hf with ⟨h2, _⟩ | ⟨j, u1, u', h2, h3, h4, _, _⟩
            · cases h2
            · cases h2
              have hb : ((es'[i]?).map (fun x => ((x.born : Nat) : Int))).getD 0 = ((es[i]?).map (fun x => ((x.born : Nat) : Int))).getD 0 := by
                cases he : es[i]? with
                | none =>
                  have : es'[i]? = none := by rw [Array.getElem?_eq_none_iff] at he ⊢; have := her.size; omega
                  rw [this]
                | some e => obtain ⟨e', q1, q2, _⟩ := her.at_ i e he; rw [q1]; simp [q2]
              refine ⟨_, _, ?_, out_map hR hw hg hes (her.modify i (fun e => { e with key := k }) (fun e => { e with key := k }) fun e e' h4 _ h6 => ⟨h4, hk, h6⟩), pairVR h4 (.int .i64 _)⟩
              unfold Instr.mapEntry
              rw [run_undA hd]
              simp only
              rw [run_getObjA h1 (by intros; simp)]
              simp only
              rw [checkKey_run hkd hsk, findKey_run hkd h3]
              simp only
              rw [getD_key hsk h3, keyStays_run hsk]
              rw [run_bindA, run_setObjA h1 (by intros; simp), hb]; rfl
          · rename_i hf
            rcases findNow_rel _ _ 0 _ hl hr hf with ⟨_, h3⟩ | ⟨j, u1, u', h2, _⟩
            · split at h
              · rename_i z hzz; cases h
                obtain ⟨ie, hie, hze⟩ := info_zero hzz
                have hzf := VR.of_free (P := P) (ρ := ρ) 100 z (hz _ _ _ hie hze)
                refine ⟨_, _, ?_, out_map hR hw hg hes (her.push hk hzf), pairVR hzf (.int .i64 _)⟩
                unfold Instr.mapEntry
                rw [run_undA hd]
                simp only
                rw [run_getObjA h1 (by intros; simp)]
                simp only
                rw [checkKey_run hkd hsk, findKey_run hkd h3]
                simp only
                rw [run_zeroA hie hze, run_bindA, run_setObjA h1 (by intros; simp)]; rfl
              · cases h
            · cases h2
          · cases h
      · cases h
    · cases h
  · cases h

theorem entryStoreC_spec {ρ : Ren} {s s1 : St} {w : World} {mt : TypeId} {m m' k k' v v' : Value} (hR : R P ρ s w) (hw : WF s) (h : entryStoreC m k v s = some s1)
    (hm : VR P ρ m m') (hk : VR P ρ k k') (hv : VR P ρ v v') : ∃ w1, (Instr.entryStore mt m' k' v').run P w = .ok () w1 ∧ Out P ρ s w ρ s1 w1 := by
  unfold entryStoreC at h
  split at h
  · rename_i r ik born
    split at h
    · rename_i es clock hes
      split at h
      · rename_i i hf; cases h
        cases hm with
        | map r g hg =>
          cases hk with
          | int ik born =>
            obtain ⟨es', h1, her⟩ := map_of hR hg hes
            have hf' : es'.findIdx? (fun e => (e.born : Int) == born) = some i := by
              rw [Array.findIdx?_eq_some_iff_getElem] at hf ⊢
              obtain ⟨hi, h2, h3⟩ := hf
              have hs := her.size
              have at_ : ∀ (j : Nat) (hj : j < es.size) (hj' : j < es'.size), es'[j].born = es[j].born := by
                intro j hj hj'
                obtain ⟨e', q1, q2, _⟩ := her.at_ j es[j] (by simp [hj])
                have : es'[j] = e' := by simpa [hj'] using q1
                rw [this]; exact q2
              refine ⟨by omega, ?_, fun j hj => ?_⟩
              · rw [at_ i hi (by omega)]; exact h2
              · rw [at_ j (by omega) (by omega)]; exact h3 j hj
            refine ⟨_, ?_, out_map hR hw hg hes (her.modify i (fun e => { e with val := v }) (fun e => { e with val := v' }) fun e e' h4 h5 _ => ⟨h4, h5, hv⟩)⟩
            unfold Instr.entryStore
            simp only
            rw [run_getObjA h1 (by intros; simp)]
            simp only [asInt, asIntOf, pure_bind]
            rw [hf']
            exact run_setObjA h1 (by intros; simp)
      · cases h
    · cases h
  · cases h

end Go.Am

namespace Go.Am
variable {P : Program}

/-- a new object that is no row of cells -/
theorem out_new {ρ : Ren} {s : St} {w : World} {o o' : Obj} {N : Nat} (hR : R P ρ s w) (hw : WF s) (hN : s.next + 1 ≤ N) (hl : N ≤ lim) (hfree : ∀ b, s.next ≤ b → b < N → ρ b = none)
    (hd : isDead o = false) {n m e : Nat} (ho : OR P ρ ⟨w.heap.size, n, m, e⟩ o (some o')) :
    Out P ρ s w (fun b => if b = s.next then some ⟨w.heap.size, n, m, e⟩ else ρ b) (s.push o) { w with heap := w.heap.push o' } :=
  Out.of_push hR hw (by omega) (hfree _ (Nat.le_refl _) (by omega)) hd rfl ho

theorem simO_makeMap {ρ : Ren} (t : TypeId) : SimO P (fun s => some (.value (.map (some s.next)), s.push (.map #[] 0))) (do Pure.pure (.value (← Instr.makeMap t none))) ρ := by
  intro s w x s1 N hF hR hw hN hl hfree
  cases hF
  refine ⟨_, _, _, rfl, out_new (n := 0) (m := 0) (e := 0) hR hw hN hl hfree rfl ⟨rfl, rfl, fun i e h => by simp at h⟩, .value _ _ ?_⟩
  exact .map _ ⟨w.heap.size, 0, 0, 0⟩ (by simp)

/-- what is known of an iterator lies there -/
theorem siter_of {ρ : Ren} {s : St} {w : World} (hR : R P ρ s w) {r : Nat} {g : G} (hg : ρ r = some g) {b : ByteArray} {p : Nat} (h : s.get r = some (.stringIter b p)) :
    w.heap[g.blk]? = some (.stringIter b p) := by
  have ho := hR.obj r g _ hg h
  unfold OR at ho
  split at ho
  · rename_i heq _; cases heq
  · rename_i heq _; cases heq
  · rename_i heq1 heq2; cases heq1; rw [heq2, ho]
  · rename_i heq _; cases heq
  · simp [isDead] at ho
theorem miter_of {ρ : Ren} {s : St} {w : World} (hR : R P ρ s w) {r : Nat} {g : G} (hg : ρ r = some g) {m : Option Nat} {a : Nat} {b : Array Nat} {c : Nat} (h : s.get r = some (.mapIter m a b c)) :
    ∃ m', w.heap[g.blk]? = some (.mapIter m' a b c) ∧ (m = none ∧ m' = none ∨ ∃ r g, m = some r ∧ ρ r = some g ∧ m' = some g.blk) := by
  have ho := hR.obj r g _ hg h
  unfold OR at ho
  split at ho
  · rename_i heq _; cases heq
  · rename_i heq _; cases heq
  · rename_i heq _; cases heq
  · rename_i heq1 heq2; cases heq1
    obtain ⟨h1, h2, h3, h4⟩ := ho
    subst h1; subst h2; subst h3
    exact ⟨_, heq2, h4⟩
  · simp [isDead] at ho

theorem simO_range {ρ : Ren} {t : TypeId} {x x' : Value} (hx : VR P ρ x x') : SimO P (fun s => (rangeC P t x s).map fun (v, s') => (.value v, s')) (do Pure.pure (.value (← Instr.range t x'))) ρ := by
  intro s w y s1 N hF hR hw hN hl hfree
  simp only [Option.map_eq_some_iff, Prod.exists] at hF
  obtain ⟨v, s2, h, he⟩ := hF
  cases he
  have done : ∀ (o o' : Obj), (∀ w : World, (newObj o' >>= fun r => (Pure.pure (Value.pointer (some ⟨r, 0, none⟩)) : Sem Value)).run P w = .ok (.pointer (some ⟨w.heap.size, 0, none⟩)) { w with heap := w.heap.push o' }) := fun _ _ _ => rfl
  unfold rangeC at h
  split at h
  · rename_i b hd; cases h
    cases hx
    refine ⟨_, _, _, ?_, out_new (n := 0) (m := 0) (e := 0) (o' := .stringIter b 0) hR hw hN hl hfree rfl rfl, .value _ _ (.ptr ⟨s.next, 0, none⟩ ⟨w.heap.size, 0, 0, 0⟩ (by simp))⟩
    unfold Instr.range
    rw [run_bindA, run_undA hd]; rfl
  · rename_i hd; cases h
    cases hx
    refine ⟨_, _, _, ?_, out_new (n := 0) (m := 0) (e := 0) (o' := .mapIter none 0 #[] 0) hR hw hN hl hfree rfl ⟨rfl, rfl, rfl, .inl ⟨rfl, rfl⟩⟩, .value _ _ (.ptr ⟨s.next, 0, none⟩ ⟨w.heap.size, 0, 0, 0⟩ (by simp))⟩
    unfold Instr.range
    rw [run_bindA, run_undA hd]; rfl
  · rename_i m hd
    split at h
    · rename_i es clock hs; cases h
      cases hx with
      | map r g hg =>
        obtain ⟨es', h1, _⟩ := map_of hR hg hs
        refine ⟨_, _, _, ?_, out_new (n := 0) (m := 0) (e := 0) (o' := .mapIter (some g.blk) clock #[] clock) hR hw hN hl hfree rfl ⟨rfl, rfl, rfl, .inr ⟨_, g, rfl, hg, rfl⟩⟩, .value _ _ (.ptr ⟨s.next, 0, none⟩ ⟨w.heap.size, 0, 0, 0⟩ (by simp))⟩
        unfold Instr.range
        rw [run_bindA, run_undA hd]
        simp only
        rw [run_getObjA h1 (by intros; simp)]; rfl
    · cases h
  · cases h

theorem one_list {α : Type} {a : Array α} {x : α} (h : a.toList = [x]) : a = #[x] := by
  cases a; simp at h; simp [h]

/-- an iterator's object is replaced -/
theorem out_iter {ρ : Ren} {s : St} {w : World} (hR : R P ρ s w) (hw : WF s) {r : Nat} {g : G} {o o1 o1' : Obj} (hg : ρ r = some g)
    (hs : s.get r = some o) (hd : isDead o = false) (hd1 : isDead o1 = false) (ho : OR P ρ g o1 (some o1')) : Out P ρ s w ρ (s.put r o1) { w with heap := w.heap.setIfInBounds g.blk o1' } := by
  have hlt := hR.lt _ _ hg
  refine Out.of_put hR hw hg hs hd hd1 (by simp) ?_ ?_ rfl rfl rfl
  · show OR P ρ g o1 (w.heap.setIfInBounds g.blk o1')[g.blk]?
    rw [Array.getElem?_setIfInBounds, if_pos rfl, if_pos hlt]; exact ho
  · intro k hk
    show (w.heap.setIfInBounds g.blk o1')[k]? = _
    rw [Array.getElem?_setIfInBounds, if_neg (fun h => hk h.symm)]

theorem filter_nil (p : MapEntry → Bool) : (#[] : Array MapEntry).filter p = #[] := rfl
theorem filter_one (p : MapEntry → Bool) (e : MapEntry) : (#[e] : Array MapEntry).filter p = if p e then #[e] else #[] := by
  cases h : p e <;> simp [h]

/-- what a step of a ranging does behind its choice -/
theorem next_none {w : World} {c : Array (Option MapEntry)} (hc : c = #[none]) (f : MapEntry → Sem Value) (g h : Sem Value) :
    (choose (.mapNext c.size) >>= fun i => match c[i]? with
      | some (some e) => f e
      | some none => g
      | none => h).run P w = g.run P w := by
  subst hc; rfl
theorem next_some {w : World} {c : Array (Option MapEntry)} {e : MapEntry} (hc : c = #[some e]) (f : MapEntry → Sem Value) (g h : Sem Value) :
    (choose (.mapNext c.size) >>= fun i => match c[i]? with
      | some (some e) => f e
      | some none => g
      | none => h).run P w = (f e).run P w := by
  subst hc; rfl

theorem nextC_spec {ρ : Ren} {s s1 : St} {w : World} {x x' v : Value} {b : Bool} {t : TypeId} (hR : R P ρ s w) (hw : WF s) (h : nextC x b s = some (v, s1)) (hx : VR P ρ x x') :
    ∃ v' w1, (Instr.next x' b t).run P w = .ok v' w1 ∧ Out P ρ s w ρ s1 w1 ∧ VR P ρ v v' := by
  have over : ∀ (w : World), (Pure.pure (Value.tuple #[Value.bool false]) : Sem Value).run P w = .ok (.tuple #[.bool false]) w := fun _ => rfl
  have fvr : VR P ρ (.tuple #[.bool false]) (.tuple #[.bool false]) := .tuple _ _ rfl (VRs.push .empty (.bool false)).at_
  unfold nextC at h
  split at h
  · rename_i a
    split at h
    · rename_i hoff
      cases hx with
      | ptr a g hg =>
      split at h
      · rename_i bs pos hs
        have hw1 := siter_of hR hg hs
        split at h
        · rename_i hpos; cases h
          refine ⟨_, _, ?_, out_iter (o1' := .stringIter bs (pos + (Utf8.decode bs pos).2)) hR hw hg hs rfl rfl rfl, .tuple _ _ rfl (VRs.push (VRs.push (VRs.push .empty (.bool true)) (.int .i64 _)) (.int .i32 _)).at_⟩
          unfold Instr.next
          simp only [hoff]
          rw [run_getObjA hw1 (by intros; simp)]
          simp only [if_pos hpos]
          rw [run_bindA, run_setObjA hw1 (by intros; simp)]; rfl
        · rename_i hpos; cases h
          refine ⟨_, w, ?_, .refl hR hw, fvr⟩
          unfold Instr.next
          simp only [hoff]
          rw [run_getObjA hw1 (by intros; simp)]
          simp only [if_neg hpos]; rfl
      · rename_i since seen last hs; cases h
        obtain ⟨m', hw1, hm⟩ := miter_of hR hg hs
        rcases hm with ⟨_, rfl⟩ | ⟨r, g', h1, _⟩
        · refine ⟨_, w, ?_, .refl hR hw, fvr⟩
          unfold Instr.next
          simp only [hoff]
          rw [run_getObjA hw1 (by intros; simp)]; rfl
        · cases h1
      · rename_i m since seen last hs
        obtain ⟨m', hw1, hm⟩ := miter_of hR hg hs
        rcases hm with ⟨h1, _⟩ | ⟨r, g', h1, hg', rfl⟩
        · cases h1
        · cases h1
          split at h
          · rename_i es clock hes
            obtain ⟨es', hes', her⟩ := map_of hR hg' hes
            split at h
            · rename_i hl; cases h
              have he0 : es' = #[] := by
                have h2 : es.size = 0 := by rw [← Array.length_toList, hl]; rfl
                have := her.size
                exact Array.eq_empty_of_size_eq_zero (by omega)
              subst he0
              refine ⟨_, w, ?_, .refl hR hw, fvr⟩
              unfold Instr.next
              simp only [hoff]
              rw [run_getObjA hw1 (by intros; simp)]
              simp only
              rw [run_getObjA hes' (by intros; simp)]
              simp only [Array.isEmpty_empty, Bool.not_true, Bool.and_false, Bool.false_and, Bool.false_eq_true, if_false]
              exact next_none (by simp [filter_nil]) _ _ _
            · rename_i e hl
              have hee := one_list hl
              subst hee
              obtain ⟨e', q1, q2, q3, q4⟩ := her.at_ 0 e rfl
              have he1 : es' = #[e'] := by
                have := her.size
                refine Array.ext (by simpa using this.symm) fun i h1 h2 => ?_
                have hi : i = 0 := by simp at h2; omega
                subst hi
                have : es'[0]? = some es'[0] := by simp [h1]
                rw [this] at q1
                simpa using q1
              subst he1
              split at h
              · rename_i hb
                obtain ⟨hb1, hb2⟩ := hb
                have hb' : e'.born < since := q2 ▸ hb1
                have hb2' : e'.born < last := q2 ▸ hb2
                have hall : (#[e'] : Array MapEntry).all (fun x => decide (x.born ≥ last)) = false := by simp; omega
                split at h
                · rename_i hc; cases h
                  have hc' : seen.contains e'.born = true := q2 ▸ hc
                  refine ⟨_, w, ?_, .refl hR hw, fvr⟩
                  unfold Instr.next
                  simp only [hoff]
                  rw [run_getObjA hw1 (by intros; simp)]
                  simp only
                  rw [run_getObjA hes' (by intros; simp)]
                  simp only [hall, Bool.and_false, Bool.false_eq_true, if_false]
                  refine next_none ?_ _ _ _
                  simp only [filter_one, hc', Bool.not_true, Bool.false_eq_true, if_false, filter_nil]; simp
                · rename_i hc; cases h
                  have hc' : seen.contains e'.born = false := by rw [q2]; simpa using hc
                  refine ⟨.tuple #[.bool true, e'.key, e'.val], _, ?_, out_iter (o1' := .mapIter (some g'.blk) since (seen.push e'.born) clock) hR hw hg hs rfl rfl ⟨rfl, by rw [q2], rfl, .inr ⟨m, g', rfl, hg', rfl⟩⟩, .tuple #[.bool true, e.key, e.val] #[.bool true, e'.key, e'.val] rfl (VRs.push (VRs.push (VRs.push .empty (.bool true)) q3) q4).at_⟩
                  unfold Instr.next
                  simp only [hoff]
                  rw [run_getObjA hw1 (by intros; simp)]
                  simp only
                  rw [run_getObjA hes' (by intros; simp)]
                  simp only [hall, Bool.and_false, Bool.false_eq_true, if_false]
                  refine (next_some (e := e') ?_ _ _ _).trans ?_
                  · have hge : decide (e'.born ≥ since) = false := by simp; omega
                    simp only [filter_one, hc', Bool.not_false, if_true, decide_eq_true hb', hge, Bool.false_eq_true, if_false]; simp
                  · rw [run_bindA, run_setObjA hw1 (by intros; simp)]; rfl
              · cases h
            · cases h
          · cases h
      · cases h
    · cases h
  · cases h

end Go.Am
