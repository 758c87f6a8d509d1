import Derived.Test.YtkandjlcimggkaaGreatDoorAm4
namespace Go.Am
variable {P : Program}
section
variable {ext : FuncId → Option Ext} {call : CallC} {ops : Array Oper} {bs : List Nat} {st : Nat → St} {ac : Nat → ActC} {ρ0 : Ren} {w0 : World}
  {listed : Array Bool} {jx : Nat} {ρ : Ren} {a' : Act} {w : World}

theorem le_or_lt (a b : Nat) : a ≤ b ∨ b < a := by omega

theorem Reg.quiet (R : Reg P ext call ops bs st ac) {k : Nat} (hk : k < ops.size) (h : ∀ y, ops[k]? = some y → isHeld P y = false) : Quiet st k := by
  have ho : ops[k]? = some ops[k] := by simp [hk]
  exact float_quiet (R.step k _ ho) (.inl (h _ ho))

/-- all before an operation that holds a place, and that may come next, is done -/
theorem quiet_below (R : Reg P ext call ops bs st ac) (I : Inv P ops bs st ac ρ0 w0 listed jx ρ a' w) {i : Nat} {o : Oper} (ho : ops[i]? = some o) (hi : i < ops.size)
    (hn : ¬ Listed listed i) (hb : ∀ k, Bf bs k i → Listed listed k) (hh : isHeld P o = true) : jx ≤ i ∧ ∀ k, jx ≤ k → k < i → Quiet st k := by
  refine ⟨I.hi i o ho hh hn, fun k h1 h2 => R.quiet (by omega) fun y hy => ?_⟩
  cases hq : isHeld P y with
  | false => rfl
  | true =>
    exfalso
    have hnk : ¬ Listed listed k := fun hL => by have := I.lo k y hy hq hL; omega
    have h3 : ¬ Bf bs k i := fun h => hnk (hb k h)
    have h4 : ¬ Bf bs i k := fun h => by have := R.lt k i h; omega
    have h5 := (R.ord i k o y ho hy h2 (unord_of h4 h3)).2
    rw [hh, hq] at h5; cases h5

theorem float_look (R : Reg P ext call ops bs st ac) (I : Inv P ops bs st ac ρ0 w0 listed jx ρ a' w) {i : Nat} {o : Oper} (ho : ops[i]? = some o) (hi : i < ops.size)
    (hn : ¬ Listed listed i) (hb : ∀ k, Bf bs k i → Listed listed k) (hh : isHeld P o = false) {i0 b : Nat} (h0 : i0 = i ∨ i0 = i + 1) (hb0 : b < (st i0).next)
    (hs1 : ∀ k y, ops[k]? = some y → isHeld P y = true → unord bs i k = true → k < i → b < (st (k + 1)).next → b < (st k).next ∧ (st k).get b = (st (k + 1)).get b)
    (hs2 : ∀ k y, ops[k]? = some y → isHeld P y = true → unord bs i k = true → i < k → (st k).get b = (st (k + 1)).get b) : lookAt st ops.size jx b = (st i0).get b := by
  have hi0 : i0 ≤ ops.size := by omega
  have ne : ∀ k y, ops[k]? = some y → isHeld P y = true → k ≠ i := by
    rintro k y hy hq rfl
    rw [ho] at hy; cases hy
    rw [hh] at hq; cases hq
  rcases le_or_lt jx i0 with hj | hj
  · refine keep_down hi0 hb0 (fun k hk => R.mono hk) (i0 - jx) jx (by omega) fun k h1 h2 => ?_
    have hk : ops[k]? = some ops[k] := by simp
    cases hq : isHeld P ops[k] with
    | false => exact .inl (R.quiet (by omega) fun y hy => by rw [hk] at hy; cases hy; exact hq)
    | true =>
      refine .inr ?_
      have hnk : ¬ Listed listed k := fun hL => by have := I.lo k _ hk hq hL; omega
      have hki := ne k _ hk hq
      have h3 : ¬ Bf bs k i := fun h => hnk (hb k h)
      have h4 : ¬ Bf bs i k := fun h => by have := R.lt k i h; omega
      exact hs1 k _ hk hq (unord_of h4 h3) (by omega)
  · have := keep_up (i := i0) (j := jx) (b := b) (st := st) (Nat.le_of_lt hj) hb0 (fun k hk => R.mono (Nat.lt_of_lt_of_le hk I.jle)) fun k h1 h2 => ?_
    · rw [lookAt_lt this.2, this.1]
    · have hlt : k < ops.size := Nat.lt_of_lt_of_le h2 I.jle
      have hk : ops[k]? = some ops[k] := by simp [hlt]
      cases hq : isHeld P ops[k] with
      | false => exact .inl (R.quiet hlt fun y hy => by rw [hk] at hy; cases hy; exact hq)
      | true =>
        refine .inr ?_
        have hki := ne k _ hk hq
        have hLk : Listed listed k := by
          by_cases hL : Listed listed k
          · exact hL
          · have := I.hi k _ hk hq hL; omega
        have h3 : ¬ Bf bs i k := fun h => hn (I.closed k i hLk h)
        have h4 : ¬ Bf bs k i := fun h => by have := R.lt i k h; omega
        exact hs2 k _ hk hq (unord_of h3 h4) (by omega)

theorem empty_get {n b : Nat} : (⟨.e, n⟩ : St).get b = none := rfl
theorem empty_wf {n : Nat} (h : n ≤ lim) : WF ⟨.e, n⟩ := ⟨h, fun _ _ => rfl⟩
theorem RH.sub {h h' : Nat → Option Obj} (hr : RH P ρ h w) (hs : ∀ b o, h' b = some o → h b = some o) : RH P ρ h' w :=
  ⟨hr.lt, fun b b' g g' o o' h1 h2 h3 h4 => hr.inj b b' g g' o o' h1 h2 (hs _ _ h3) (hs _ _ h4), fun b g o h1 h2 => hr.obj b g o h1 (hs _ _ h2)⟩

theorem step_any (hz : Fine P) (hext : ExtOk P ext) (hcall : CallSound P call) (R : Reg P ext call ops bs st ac) (I : Inv P ops bs st ac ρ0 w0 listed jx ρ a' w)
    (hsm : (ac 0).size ≤ 2 ^ 20) (hfree0 : Free ρ0 (st 0).next (st ops.size).next) (hlim : (st ops.size).next ≤ lim) {Q : Exit → Act → World → Prop}
    {i : Nat} (hr : i ∈ Region.ready .any ops listed) :
    wpOp P ops Q i (fun a'' w'' => ∃ jx' ρ', Inv P ops bs st ac ρ0 w0 (listed.setIfInBounds i true) jx' ρ' a'' w'') a' w := by
  obtain ⟨o, ho, hi, hn, hb⟩ := ready_befores R I hr
  have hlook := looks_rel R I ho hi hn hb
  have hsz : a'.tmps.size = (ac i).size := by rw [R.ac_size i (Nat.le_of_lt hi)]; exact I.size
  have hwe := wanted_eq (P := P) (ρ := ρ) (o := o) hsz hlook
  have hst := R.step i o ho
  have hli : (st i).next ≤ lim := Nat.le_trans (R.mono' (Nat.le_of_lt hi) (Nat.le_refl _)) hlim
  have hli1 : (st (i + 1)).next ≤ lim := Nat.le_trans (R.mono' (by omega) (Nat.le_refl _)) hlim
  have hlims : ∀ k, k ≤ ops.size → (st k).next ≤ lim := fun k hk => Nat.le_trans (R.mono' hk (Nat.le_refl _)) hlim
  -- where nothing that holds a place is done, all stays
  have hlo0 : isHeld P o = false → ∀ k x, ops[k]? = some x → isHeld P x = true → (k = i ∨ Listed listed k) → k < jx := fun hh k x h1 h2 h3 => by
    rcases h3 with rfl | h3
    · rw [ho] at h1; cases h1; rw [hh] at h2; cases h2
    · exact I.lo k x h1 h2 h3
  have hhi0 : ∀ k x, ops[k]? = some x → isHeld P x = true → ¬ (k = i ∨ Listed listed k) → jx ≤ k := fun k x h1 h2 h3 => I.hi k x h1 h2 fun h => h3 (.inr h)
  have hlo1 : isHeld P o = true → ∀ k x, ops[k]? = some x → isHeld P x = true → (k = i ∨ Listed listed k) → k < i + 1 := fun hh k x h1 h2 h3 => by
    rcases h3 with rfl | h3
    · omega
    · have := I.lo k x h1 h2 h3
      have := (quiet_below R I ho hi hn hb hh).1
      omega
  have hhi1 : isHeld P o = true → ∀ k x, ops[k]? = some x → isHeld P x = true → ¬ (k = i ∨ Listed listed k) → i + 1 ≤ k := fun hh k x h1 h2 h3 => by
    rcases Nat.lt_trichotomy k i with h | h | h
    · exfalso
      have hnk : ¬ Listed listed k := fun h => h3 (.inr h)
      have h5 : ¬ Bf bs k i := fun h => hnk (hb k h)
      have h4 : ¬ Bf bs i k := fun h => by have := R.lt k i h; omega
      have h6 := (R.ord i k o x ho h1 h (unord_of h4 h5)).2
      rw [hh, h2] at h6; cases h6
    · exact absurd (.inl h) h3
    · exact h
  by_cases hw : Region.wanted o (yieldedC ops.toList (ac i)) = true
  case neg =>
    have hwf0 : Region.wanted o (yieldedC ops.toList (ac i)) = false := by simpa using hw
    have hw' : ¬ Region.wanted o (yielded ops a'.tmps) = true := hwe ▸ hw
    have hq := float_quiet hst (.inr hwf0)
    have hst' := hst
    simp only [stepD, hwf0, Bool.false_eq_true, if_false, Option.some.injEq, Prod.mk.injEq] at hst'
    obtain ⟨hac, hss⟩ := hst'
    unfold wpOp
    simp only [ho, hw']
    have hR0 : Go.Am.R P ρ ⟨.e, (st i).next⟩ w := RH.sub I.mem fun b o h => by simp [empty_get] at h
    have hout : Out P ρ ⟨.e, (st i).next⟩ w ρ ⟨.e, (st i).next⟩ w := .refl hR0 (empty_wf hli)
    cases hh : isHeld P o with
    | false =>
      refine ⟨jx, ρ, Inv.update R I hsm hfree0 ho hi hn hb hac.symm vr_undef hout rfl (by rw [← hss]) (empty_wf hli) (fun b ob h => by simp [empty_get] at h) ?_ I.jle I.wf (hlo0 hh) hhi0⟩
      exact fun b ob h => .inr ⟨rfl, h, Nat.lt_or_ge _ _⟩
    | true =>
      obtain ⟨hj, hquiet⟩ := quiet_below R I ho hi hn hb hh
      have hall : ∀ k, jx ≤ k → k < i + 1 → Quiet st k := fun k h1 h2 => by
        rcases Nat.lt_or_ge k i with h | h
        · exact hquiet k h1 h
        · have : k = i := by omega
          exact this ▸ hq
      have hlk := quiet_look (st := st) (n := ops.size) (i := jx) (j := i + 1) (by omega) (by omega) hall
      refine ⟨i + 1, ρ, Inv.update R I hsm hfree0 ho hi hn hb hac.symm vr_undef hout rfl (by rw [← hss]) (empty_wf hli) (fun b ob h => by simp [empty_get] at h) ?_ (by omega)
        (fun k hk => by
          rcases le_or_lt k jx with h | h
          · exact I.wf k h
          · exact quiet_wf (n := ops.size) (i := jx) (by omega) (by omega) hlims (fun m h1 h2 => hall m h1 (by omega)) (I.wf jx (Nat.le_refl _))) (hlo1 hh) (hhi1 hh)⟩
      intro b ob h
      rw [← hlk] at h
      exact .inr ⟨rfl, h, Nat.lt_or_ge _ _⟩
  case pos =>
    have hw' : Region.wanted o (yielded ops a'.tmps) = true := hwe ▸ hw
    have hst' := hst
    simp only [stepD, hw, if_true] at hst'
    split at hst'
    case isFalse => cases hst'
    rename_i hcst
    have hev := evR_of hlook hcst
    cases hop : opK P ext (ac i).eval o (viewC P (ac i).eval o (st i)) with
    | none => rw [hop] at hst'; cases hst'
    | some r =>
      rw [hop] at hst'
      simp only at hst'
      cases hh : isHeld P o with
      | true =>
        have hcl : cls P o.op = .held := by simpa [isHeld] using hh
        rw [if_pos hcl] at hst'
        have hview : viewC P (ac i).eval o (st i) = st i := by unfold viewC; rw [hcl]
        rw [hview] at hop
        obtain ⟨hj, hquiet⟩ := quiet_below R I ho hi hn hb hh
        have hlk := quiet_look (st := st) (n := ops.size) hj (Nat.le_of_lt hi) hquiet
        have hwfi : WF (st i) := quiet_wf (n := ops.size) hj (Nat.le_of_lt hi) hlims hquiet (I.wf jx (Nat.le_refl _))
        have hsub : ∀ b ob, (st i).get b = some ob → lookAt st ops.size jx b = some ob := fun b ob h => by
          rw [hlk, lookAt_lt (hwfi.lt h)]; exact h
        have hRi : Go.Am.R P ρ (st i) w := RH.sub I.mem hsub
        refine wpOp_of hz hext hcall ho hw' hev hop hst' hRi hwfi (Nat.le_refl _) hli1 (I.free i hi hn) ?_
        intro v v' w1 ρ1 hac _ hout hv
        refine ⟨i + 1, ρ1, Inv.update R I hsm hfree0 ho hi hn hb hac hv hout rfl rfl hwfi hsub ?_ (by omega) (fun k hk => ?_) (hlo1 hh) (hhi1 hh)⟩
        rotate_left
        · rcases le_or_lt k jx with h | h
          · exact I.wf k h
          · rcases Nat.lt_or_ge k (i + 1) with h' | h'
            · exact quiet_wf (n := ops.size) (i := jx) (by omega) (by omega) hlims (fun m h1 h2 => hquiet m h1 (by omega)) (I.wf jx (Nat.le_refl _))
            · have : k = i + 1 := by omega
              exact this ▸ hout.wf
        intro b ob h
        rcases Nat.lt_or_ge b (st (i + 1)).next with hlt | hge
        · rw [lookAt_lt hlt] at h; exact .inl h
        · have hge' : (st i).next ≤ b := Nat.le_trans (R.mono hi) hge
          refine .inr ⟨hwfi.none b hge', ?_, .inr hge⟩
          rw [hlk, lookAt_ge hi hge']; exact h
      | false =>
        have hcl : ¬ cls P o.op = .held := by intro e; simp [isHeld, e] at hh
        rw [if_neg hcl] at hst'
        obtain ⟨x, t⟩ := r
        cases x with
        | value v =>
          simp only at hst'
          cases hm : mergeC (cls P o.op) (st i) t with
          | none => rw [hm] at hst'; cases hst'
          | some s' =>
            rw [hm] at hst'
            simp only [Option.map_some, Option.some.injEq, Prod.mk.injEq] at hst'
            obtain ⟨hac, rfl⟩ := hst'
            -- what is known of an unordered operation
            have hrows : cls P o.op ≠ .pure → ∀ k y, ops[k]? = some y → isHeld P y = true → unord bs i k = true → pairP P st ac o i k := fun hp k y h1 h2 h3 =>
              R.rows i k o y ho h1 hh hp hw h2 h3
            have hnextm : t.next = (st (i + 1)).next := by
              unfold mergeC at hm
              split at hm
              · rename_i h; rw [h, ← Option.some.inj hm]
              · split at hm
                · rename_i h
                  cases hg : t.get (st i).next with
                  | none => rw [hg] at hm; cases hm
                  | some ob => rw [hg] at hm; rw [h.2, ← Option.some.inj hm]; rfl
                · cases hm
            -- the view, in general
            have main : ∀ T : St, viewC P (ac i).eval o (st i) = T → T.next = (st i).next → WF T → (∀ b ob, T.get b = some ob → lookAt st ops.size jx b = some ob) →
                (∀ b ob, lookAt st ops.size jx b = some ob → t.get b = some ob ∨ (T.get b = none ∧ (b < T.next ∨ t.next ≤ b))) →
                wpOp P ops Q i (fun a'' w'' => ∃ jx' ρ', Inv P ops bs st ac ρ0 w0 (listed.setIfInBounds i true) jx' ρ' a'' w'') a' w := by
              intro T hT hTn hTw hsub hnew
              rw [hT] at hop
              refine wpOp_float hz hext ho hw' hev hop (RH.sub I.mem hsub) hTw (Nat.le_refl _) (by rw [hnextm]; exact hli1) (by rw [hTn, hnextm]; exact I.free i hi hn) ?_
              intro v' w1 ρ1 hout hv
              refine ⟨jx, ρ1, Inv.update R I hsm hfree0 ho hi hn hb hac.symm hv hout hTn hnextm hTw hsub ?_ I.jle I.wf (hlo0 hh) hhi0⟩
              intro b ob h
              rcases hnew b ob h with h1 | ⟨h1, h2⟩
              · exact .inl h1
              · exact .inr ⟨h1, h, h2⟩
            have split_lt : ∀ b n, b < n ∨ n ≤ b := fun b n => Nat.lt_or_ge b n
            cases hc : cls P o.op with
            | held => exact absurd hc hcl
            | pure =>
              have hv0 : viewC P (ac i).eval o (st i) = ⟨.e, (st i).next⟩ := by unfold viewC; rw [hc]
              refine main _ hv0 rfl (empty_wf hli) (fun b ob h => by simp [empty_get] at h) fun b ob _ => .inr ⟨rfl, ?_⟩
              have : t.next = (st i).next := by
                unfold mergeC at hm
                split at hm
                · assumption
                · split at hm
                  · rename_i h; rw [hc] at h; exact absurd h.1 (by simp)
                  · cases hm
              rw [this]; exact split_lt _ _
            | alloc =>
              have hv0 : viewC P (ac i).eval o (st i) = ⟨.e, (st i).next⟩ := by unfold viewC; rw [hc]
              refine main _ hv0 rfl (empty_wf hli) (fun b ob h => by simp [empty_get] at h) fun b ob hbo => ?_
              unfold mergeC at hm
              split at hm
              · rename_i h; rw [h]; exact .inr ⟨rfl, split_lt _ _⟩
              · split at hm
                · rename_i h
                  cases hg : t.get (st i).next with
                  | none => rw [hg] at hm; cases hm
                  | some ob' =>
                    rw [hg] at hm
                    have hpush : st (i + 1) = (st i).push ob' := (Option.some.inj hm).symm
                    by_cases hbe : b = (st i).next
                    · subst hbe
                      have hlt1 : (st i).next < (st (i + 1)).next := by rw [hpush]; exact Nat.lt_succ_self _
                      have hkeep := float_look R I ho hi hn hb hh (i0 := i + 1) (b := (st i).next) (.inr rfl) hlt1
                        (fun k y h1 h2 h3 h4 h5 => by
                          have := R.mono' (i := k + 1) (j := i) (by omega) (by omega); omega)
                        (fun k y h1 h2 h3 h4 => by
                          have hp := hrows (by rw [hc]; simp) k y h1 h2 h3
                          unfold pairP at hp
                          rw [hc] at hp
                          rcases hp with hp | hp | hp
                          · omega
                          · omega
                          · exact hp)
                      rw [hbo, hpush, St.get_push_same hli] at hkeep
                      rw [hg, ← hkeep]; exact .inl rfl
                    · refine .inr ⟨rfl, ?_⟩
                      rw [h.2]
                      show b < (st i).next ∨ (st i).next + 1 ≤ b
                      omega
                · cases hm
            | load =>
              have ht : t = viewC P (ac i).eval o (st i) := load_same hc (opK_ok hz.ng hop)
              have gen : ∀ T : St, viewC P (ac i).eval o (st i) = T → T.next = (st i).next → WF T → (∀ b ob, T.get b = some ob → lookAt st ops.size jx b = some ob) →
                  wpOp P ops Q i (fun a'' w'' => ∃ jx' ρ', Inv P ops bs st ac ρ0 w0 (listed.setIfInBounds i true) jx' ρ' a'' w'') a' w := by
                intro T hT hTn hTw hsub
                refine main T hT hTn hTw hsub fun b ob hbo => ?_
                have htT : t = T := ht.trans hT
                rw [htT]
                cases hg : T.get b with
                | none => exact .inr ⟨rfl, split_lt _ _⟩
                | some o' => rw [← hbo, hsub b o' hg]; exact .inl rfl
              have hload : ∀ b, b < (st i).next → (∀ k y, ops[k]? = some y → isHeld P y = true → unord bs i k = true →
                  (b < (st (k + 1)).next → b < (st k).next ∧ (st k).get b = (st (k + 1)).get b)) → lookAt st ops.size jx b = (st i).get b := fun b hbl hk =>
                float_look R I ho hi hn hb hh (i0 := i) (.inl rfl) hbl (fun k y h1 h2 h3 _ h5 => hk k y h1 h2 h3 h5)
                  (fun k y h1 h2 h3 h4 => (hk k y h1 h2 h3 (by
                    have hklt : k < ops.size := (Array.getElem?_eq_some_iff.1 h1).1
                    have := R.mono' (i := i) (j := k + 1) (by omega) (by omega); omega)).2)
              cases hrd : readsC (ac i).eval o.op with
              | none =>
                have hv0 : viewC P (ac i).eval o (st i) = st i := by unfold viewC; rw [hc, hrd]
                -- nothing is without order to it
                have hno : ∀ k y, ops[k]? = some y → isHeld P y = true → unord bs i k = true → False := fun k y h1 h2 h3 => by
                  have hp := hrows (by rw [hc]; simp) k y h1 h2 h3
                  unfold pairP at hp
                  rw [hc] at hp
                  simp only [hrd] at hp
                have hwfi : WF (st i) := by
                  rcases le_or_lt jx i with hj | hj
                  · refine quiet_wf (n := ops.size) hj (Nat.le_of_lt hi) hlims (fun k h1 h2 => R.quiet (by omega) fun y hy => ?_) (I.wf jx (Nat.le_refl _))
                    cases hq : isHeld P y with
                    | false => rfl
                    | true =>
                      exfalso
                      have hnk : ¬ Listed listed k := fun hL => by have := I.lo k y hy hq hL; omega
                      exact hno k y hy hq (unord_of (fun h => by have := R.lt k i h; omega) fun h => hnk (hb k h))
                  · exact I.wf i (Nat.le_of_lt hj)
                refine gen _ hv0 rfl hwfi fun b ob hbo => ?_
                rw [hload b (hwfi.lt hbo) fun k y h1 h2 h3 => (hno k y h1 h2 h3).elim]
                exact hbo
              | some ra =>
                cases ra with
                | none =>
                  have hv0 : viewC P (ac i).eval o (st i) = ⟨.e, (st i).next⟩ := by unfold viewC; rw [hc, hrd]
                  exact gen _ hv0 rfl (empty_wf hli) fun b ob h => by simp [empty_get] at h
                | some ad =>
                  cases hg : (st i).get ad.block with
                  | none =>
                    have hv0 : viewC P (ac i).eval o (st i) = ⟨.e, (st i).next⟩ := by unfold viewC; rw [hc, hrd]; simp only [hg]
                    exact gen _ hv0 rfl (empty_wf hli) fun b ob h => by simp [empty_get] at h
                  | some ob0 =>
                    by_cases hlt : ad.block < (st i).next
                    · have hv0 : viewC P (ac i).eval o (st i) = ⟨Tr.set ob0 deep .e ad.block, (st i).next⟩ := by unfold viewC; rw [hc, hrd]; simp only [hg, if_pos hlt]
                      have hsame : (⟨Tr.set ob0 deep .e ad.block, (st i).next⟩ : St).get ad.block = some ob0 := Tr.get_set_same _ _ _ _ (lim_deep (by omega))
                      have hother : ∀ b, b ≠ ad.block → (⟨Tr.set ob0 deep .e ad.block, (st i).next⟩ : St).get b = none := fun b hbne => by
                        show (Tr.set ob0 deep .e ad.block).get b = none
                        rw [Tr.get_set_ne _ _ _ _ _ (fun e => hbne e.symm)]; rfl
                      refine gen _ hv0 rfl ⟨hli, fun b hbn => hother b fun e => ?_⟩ fun b ob hbo => ?_
                      · have : (st i).next ≤ b := hbn
                        omega
                      · by_cases hbe : b = ad.block
                        · subst hbe
                          rw [hsame] at hbo
                          rw [hload ad.block hlt fun k y h1 h2 h3 => ?_, hg]
                          · exact hbo
                          · have hp := hrows (by rw [hc]; simp) k y h1 h2 h3
                            unfold pairP at hp
                            rw [hc] at hp
                            simp only [hrd] at hp
                            exact hp.2
                        · rw [hother b hbe] at hbo; cases hbo
                    · have hv0 : viewC P (ac i).eval o (st i) = ⟨.e, (st i).next⟩ := by unfold viewC; rw [hc, hrd]; simp only [hg, if_neg hlt]
                      exact gen _ hv0 rfl (empty_wf hli) fun b ob h => by simp [empty_get] at h
        | _ => simp at hst'
end
end Go.Am

namespace Go.Am
variable {P : Program}
section
variable {ext : FuncId → Option Ext} {call : CallC} {ops : Array Oper} {bs : List Nat} {st : Nat → St} {ac : Nat → ActC} {ρ0 : Ren} {w0 : World}

theorem ready_nil {listed : Array Bool} (hs : listed.size = ops.size) (hedge : ∀ i x, ops[i]? = some x → ∀ e ∈ edges x, e < i) (h : Region.ready .any ops listed = []) : ∀ i, i < ops.size → Listed listed i := by
  intro i
  induction i using Nat.strongRecOn with
  | _ i ih =>
    intro hi
    by_cases hL : Listed listed i
    · exact hL
    · exfalso
      have ho : ops[i]? = some ops[i] := by simp [hi]
      have : i ∈ Region.ready .any ops listed := by
        refine mem_ready.2 ⟨?_, ops[i], ho, fun e he hb => ?_⟩
        · have hi' : i < listed.size := hs ▸ hi
          unfold Listed at hL
          simp [Array.getD_eq_getD_getElem?, hi'] at hL ⊢
          exact hL
        · have hm : e.on ∈ edges ops[i] := List.mem_map.2 ⟨e, List.mem_filter.2 ⟨Array.mem_toList_iff.2 he, hb⟩, rfl⟩
          have hlt := hedge i _ ho e.on hm
          exact ih e.on hlt (by omega)
      rw [h] at this; cases this

def todo (n : Nat) (listed : Array Bool) : Nat := (List.range n).countP fun k => !listed.getD k false

theorem countP_lt {α : Type} {l : List α} {p q : α → Bool} (hpq : ∀ x ∈ l, q x = true → p x = true) {a : α} (ha : a ∈ l) (hp : p a = true) (hq : q a = false) : l.countP q < l.countP p := by
  induction l with
  | nil => cases ha
  | cons x l ih =>
    rw [List.countP_cons, List.countP_cons]
    have hle : l.countP q ≤ l.countP p := List.countP_mono_left fun y hy => hpq y (List.mem_cons_of_mem _ hy)
    rcases List.mem_cons.1 ha with rfl | h
    · rw [hp, hq]; simp; omega
    · have := ih (fun y hy => hpq y (List.mem_cons_of_mem _ hy)) h
      cases hqx : q x with
      | false => simp; omega
      | true => rw [hpq x List.mem_cons_self hqx]; simp; omega

theorem todo_set {listed : Array Bool} {i n : Nat} (hs : listed.size = n) (hi : i < n) (hL : ¬ Listed listed i) : todo n (listed.setIfInBounds i true) < todo n listed := by
  refine countP_lt (a := i) (fun x _ hx => ?_) (by simp [hi]) ?_ ?_
  · simp only [Bool.not_eq_true'] at hx ⊢
    by_cases h : i = x
    · subst h; simp [hs, hi] at hx
    · rw [getD_set_ne false h] at hx; exact hx
  · simpa [Listed] using hL
  · simp [hs, hi]

theorem any_sound (hz : Fine P) (hext : ExtOk P ext) (hcall : CallSound P call) (R : Reg P ext call ops bs st ac)
    (hsm : (ac 0).size ≤ 2 ^ 20) (hfree0 : Free ρ0 (st 0).next (st ops.size).next) (hlim : (st ops.size).next ≤ lim) {Q : Exit → Act → World → Prop}
    (hQ : ∀ a1' w1 ρ1, Out P ρ0 (st 0) w0 ρ1 (st ops.size) w1 → ActR P ρ1 (ac ops.size) a1' → Q .normal a1' w1) :
    ∀ (fuel : Nat) (listed : Array Bool) (jx : Nat) (ρ : Ren) (a' : Act) (w : World), Inv P ops bs st ac ρ0 w0 listed jx ρ a' w → todo ops.size listed ≤ fuel → wpAny P .any ops Q fuel listed a' w := by
  have done : ∀ (listed : Array Bool) (jx : Nat) (ρ : Ren) (a' : Act) (w : World), Inv P ops bs st ac ρ0 w0 listed jx ρ a' w → Region.ready .any ops listed = [] → Q .normal a' w := by
    intro listed jx ρ a' w I hr
    have hall := ready_nil I.lsize R.edge hr
    have hquiet : ∀ k, jx ≤ k → k < ops.size → Quiet st k := fun k h1 h2 => R.quiet h2 fun y hy => by
      cases hq : isHeld P y with
      | false => rfl
      | true => have := I.lo k y hy hq (hall k h2); omega
    have hlims : ∀ k, k ≤ ops.size → (st k).next ≤ lim := fun k hk => Nat.le_trans (R.mono' hk (Nat.le_refl _)) hlim
    have hwf := quiet_wf (n := ops.size) I.jle (Nat.le_refl _) hlims hquiet (I.wf jx (Nat.le_refl _))
    have hlk := quiet_look (st := st) (n := ops.size) I.jle (Nat.le_refl _) hquiet
    have hsub : ∀ b o, (st ops.size).get b = some o → lookAt st ops.size jx b = some o := fun b o h => by rw [hlk, lookAt_lt (hwf.lt h)]; exact h
    refine hQ a' w ρ ⟨I.le, RH.sub I.mem hsub, I.new, I.frame, I.hsize, R.mono' (Nat.zero_le _) (Nat.le_refl _), hwf, fun b o h1 h2 h3 => I.old b o h1 (hsub b o h2) h3, I.os, I.out, I.tape⟩ ?_
    refine ⟨by rw [R.ac_size _ (Nat.le_refl _)]; exact I.size, by rw [R.ac_size _ (Nat.le_refl _)]; exact hsm, fun t => ?_, I.defers⟩
    refine I.tmps t ops.size (Nat.le_refl _) fun j o hj _ => ?_
    have hlt : j < ops.size := (Array.getElem?_eq_some_iff.1 hj).1
    exact ⟨fun _ => hlt, fun _ => hall j hlt⟩
  intro fuel
  induction fuel with
  | zero =>
    intro listed jx ρ a' w I hf
    have hr : Region.ready .any ops listed = [] := by
      cases hr : Region.ready .any ops listed with
      | nil => rfl
      | cons i rest =>
        exfalso
        obtain ⟨o, ho, hi, hn, _⟩ := ready_befores R I (i := i) (by rw [hr]; exact List.mem_cons_self)
        have := todo_set I.lsize hi hn; omega
    exact ⟨hr, done _ _ _ _ _ I hr⟩
  | succ fuel ih =>
    intro listed jx ρ a' w I hf
    refine ⟨fun hr => done _ _ _ _ _ I hr, fun i hi => ?_⟩
    obtain ⟨o, ho, hil, hn, _⟩ := ready_befores R I hi
    refine wpOp_mono (fun a'' w'' h => ?_) (step_any hz hext hcall R I hsm hfree0 hlim hi)
    obtain ⟨jx', ρ', I'⟩ := h
    have := todo_set I.lsize hil hn
    exact ih _ jx' ρ' a'' w'' I' (by omega)

theorem look_ge (R : Reg P ext call ops bs st ac) {b : Nat} (hb : (st ops.size).next ≤ b) : ∀ (d j : Nat), j + d = ops.size → look st d j b = none := by
  intro d
  induction d with
  | zero => intro j hj; simp only [look]; rw [if_neg]; have : j = ops.size := by omega
            subst this; omega
  | succ d ih =>
    intro j hj
    simp only [look]
    have := R.mono' (i := j) (j := ops.size) (by omega) (Nat.le_refl _)
    rw [if_neg (by omega)]
    exact ih (j + 1) (by omega)

theorem region_any (hz : Fine P) (hext : ExtOk P ext) (hcall : CallSound P call) (R : Reg P ext call ops bs st ac) (hm : P.follows .mixedOrders = true) {id : Nat}
    {a' : Act} {w : World} (hA : ActR P ρ0 (ac 0) a') (hR : Go.Am.R P ρ0 (st 0) w) (hwf : WF (st 0)) {N : Nat} (hN : (st ops.size).next ≤ N) (hl : N ≤ lim) (hfree : Free ρ0 (st 0).next N)
    {Q : Exit → Act → World → Prop} (hQ : ∀ a1' w1 ρ1, Out P ρ0 (st 0) w ρ1 (st ops.size) w1 → ActR P ρ1 (ac ops.size) a1' → Q .normal a1' w1) : (Code.region id ops true).wp P Q a' w := by
  refine wp_region_any hm ?_
  have hlim : (st ops.size).next ≤ lim := Nat.le_trans hN hl
  have hfree0 : Free ρ0 (st 0).next (st ops.size).next := fun b h1 h2 => hfree b h1 (Nat.lt_of_lt_of_le h2 hN)
  have hno : ∀ i, ¬ Listed (Array.replicate ops.size false) i := fun i => by
    unfold Listed
    rw [Array.getD_eq_getD_getElem?, Array.getElem?_replicate]
    split <;> simp
  refine any_sound (w0 := w) hz hext hcall R hA.small hfree0 hlim hQ ops.size _ 0 ρ0 a' _ ?_ ?_
  · refine ⟨by simp, fun i k h => absurd h (hno i), fun i o _ _ h => absurd h (hno i), fun i o _ _ _ => Nat.zero_le _, Nat.zero_le _, hA.size, hA.defers, ?_, ?_, ?_, ?_, .refl _, ?_, fun _ _ _ => rfl, Nat.le_refl _, ?_, rfl, rfl, rfl⟩
    · intro t m hmn h
      rw [R.ac_keep (Nat.zero_le m) hmn fun k o _ h2 h3 h4 => hno k ((h k o h3 h4).2 h2)]
      exact hA.at_ t
    · have hin : ∀ b g o, ρ0 b = some g → lookAt st ops.size 0 b = some o → (st 0).get b = some o := by
        intro b g o hg ho
        rcases Nat.lt_or_ge b (st 0).next with h | h
        · rw [lookAt_lt h] at ho; exact ho
        · exfalso
          rcases Nat.lt_or_ge b (st ops.size).next with h2 | h2
          · rw [hfree0 b h h2] at hg; cases hg
          · rw [show lookAt st ops.size 0 b = none from look_ge R h2 _ _ (by omega)] at ho; cases ho
      exact ⟨hR.lt, fun b b' g g' o o' h1 h2 h3 h4 => hR.inj b b' g g' o o' h1 h2 (hin b g o h1 h3) (hin b' g' o' h2 h4), fun b g o h1 h2 => hR.obj b g o h1 (hin b g o h1 h2)⟩
    · intro i hi _ b h1 h2
      exact hfree0 b (Nat.le_trans (R.mono' (Nat.zero_le i) (by omega)) h1) (Nat.lt_of_lt_of_le h2 (R.mono' (by omega) (Nat.le_refl _)))
    · intro k hk; have : k = 0 := by omega
      exact this ▸ hwf
    · intro b g h1 h2; rw [h1] at h2; cases h2
    · intro b o h1 h2 h3
      rw [lookAt_lt h1] at h2; exact ⟨o, h2, h3⟩
  · unfold todo
    exact Nat.le_trans List.countP_le_length (by simp)
end

/-! ## The run of a region, as it was checked -/
theorem opsD_spec {ext : FuncId → Option Ext} {call : CallC} {ops : List Oper} : ∀ (rest : List Oper) (a : ActC) (s : St) (steps : List Step), opsD P ext call ops rest a s = some steps →
    steps.length = rest.length + 1 ∧ steps[0]? = some ⟨s, a⟩ ∧ ∀ k o, rest[k]? = some o → ∃ x y, steps[k]? = some x ∧ steps[k + 1]? = some y ∧ stepD P ext call ops o x.act x.st = some (y.act, y.st) := by
  intro rest
  induction rest with
  | nil => intro a s steps h; rw [opsD_nil] at h; cases h; exact ⟨rfl, rfl, fun k o h => by simp at h⟩
  | cons o rest ih =>
    intro a s steps h
    rw [opsD_cons] at h
    cases hst : stepD P ext call ops o a s with
    | none => rw [hst] at h; cases h
    | some p =>
      obtain ⟨a2, s2⟩ := p
      rw [hst] at h
      simp only at h
      cases hr : opsD P ext call ops rest a2 s2 with
      | none => rw [hr] at h; cases h
      | some l =>
        rw [hr] at h
        simp only [Option.some.injEq] at h
        subst h
        obtain ⟨h1, h2, h3⟩ := ih a2 s2 l hr
        refine ⟨by simp [h1], rfl, fun k o' hk => ?_⟩
        cases k with
        | zero =>
          simp only [List.getElem?_cons_zero, Option.some.injEq] at hk
          subst hk
          exact ⟨⟨s, a⟩, ⟨s2, a2⟩, rfl, by simpa using h2, hst⟩
        | succ k =>
          obtain ⟨x, y, h4, h5, h6⟩ := h3 k o' (by simpa using hk)
          exact ⟨x, y, by simpa using h4, by simpa using h5, h6⟩

theorem allB_spec {n : Nat} {f : Nat → Bool} (h : allB n f = true) : ∀ i, i < n → f i = true := fun i hi => by
  unfold allB at h
  rw [List.all_eq_true] at h
  exact h i (by simpa using hi)

noncomputable def stOf (steps : List Step) (k : Nat) : St := ((steps[k]?).map (·.st)).getD ⟨.e, 0⟩
noncomputable def acOf (steps : List Step) (k : Nat) : ActC := ((steps[k]?).map (·.act)).getD ⟨.e, 0⟩

theorem reg_of {ext : FuncId → Option Ext} {call : CallC} {ops : Array Oper} {a : ActC} {s : St} {steps : List Step} (h : opsD P ext call ops.toList ops.toList a s = some steps)
    (ht : textOk P ops.toList (befores [] ops.toList) = true) (hr : rowsOk P ops.toList (befores [] ops.toList) steps = true) :
    Reg P ext call ops (befores [] ops.toList) (stOf steps) (acOf steps) := by
  obtain ⟨h1, h2, h3⟩ := opsD_spec _ _ _ _ h
  have hat : ∀ i x, ops[i]? = some x → ops.toList[i]? = some x := fun i x hx => by rw [Array.getElem?_toList]; exact hx
  have hlt : ∀ i x, ops[i]? = some x → i < ops.toList.length := fun i x hx => by
    have := (Array.getElem?_eq_some_iff.1 hx).1
    simpa using this
  refine ⟨?_, ?_, ?_, ?_, ?_⟩
  · intro i o ho
    obtain ⟨x, y, h4, h5, h6⟩ := h3 i o (hat i o ho)
    simp only [stOf, acOf, h4, h5, Option.map_some, Option.getD_some]
    exact h6
  · intro i k hb
    obtain ⟨o, ho, he⟩ := befores_bit hb
    exact ⟨o, by rw [← Array.getElem?_toList]; exact ho, he⟩
  · intro i x hx e he
    have := allB_spec ht i (hlt i x hx)
    rw [hat i x hx] at this
    simp only [Bool.and_eq_true, List.all_eq_true, decide_eq_true_eq] at this
    exact this.1 e he
  · intro i j x y hx hy hji hu
    have := allB_spec ht i (hlt i x hx)
    rw [hat i x hx] at this
    simp only [Bool.and_eq_true] at this
    have := allB_spec this.2 j hji
    rw [hat j y hy] at this
    simp only [hu, Bool.not_true, Bool.false_or, Bool.and_eq_true, Bool.not_eq_true'] at this
    exact this
  · intro i j x y hx hy hh hp hw hhy hu
    have := allB_spec hr i (hlt i x hx)
    obtain ⟨si, si1, h4, h5, h6⟩ := h3 i x (hat i x hx)
    obtain ⟨sj, sj1, h7, h8, h9⟩ := h3 j y (hat j y hy)
    rw [hat i x hx, h4] at this
    simp only [Bool.or_eq_true, Bool.not_eq_true'] at this
    have haci : acOf steps i = si.act := by simp only [acOf, h4, Option.map_some, Option.getD_some]
    have hsti : stOf steps i = si.st := by simp only [stOf, h4, Option.map_some, Option.getD_some]
    have hsti1 : stOf steps (i + 1) = si1.st := by simp only [stOf, h5, Option.map_some, Option.getD_some]
    have hstj : stOf steps j = sj.st := by simp only [stOf, h7, Option.map_some, Option.getD_some]
    have hstj1 : stOf steps (j + 1) = sj1.st := by simp only [stOf, h8, Option.map_some, Option.getD_some]
    rw [haci] at hw
    have hnp : (cls P x.op == Cls.pure) = false := by simpa using hp
    rw [hh, hnp, hw] at this
    rcases this with (((h | h) | h) | h)
    · cases h
    · cases h
    · cases h
    · have := allB_spec h j (hlt j y hy)
      rw [hat j y hy] at this
      simp only [hhy, hu, Bool.not_true, Bool.false_or] at this
      unfold pairOk at this
      rw [h4, h5, h7, h8] at this
      simp only at this
      unfold pairP
      rw [haci, hsti, hsti1, hstj, hstj1]
      cases hc : cls P x.op with
      | load =>
        rw [hc] at this
        simp only at this ⊢
        cases hrd : readsC si.act.eval x.op with
        | none => rw [hrd] at this; cases this
        | some r =>
          rw [hrd] at this
          cases r with
          | none => trivial
          | some ad =>
            simp only [Bool.and_eq_true, decide_eq_true_eq] at this ⊢
            refine ⟨this.1, fun hlt => ?_⟩
            have h10 := this.2
            rw [if_pos hlt] at h10
            simp only [Bool.and_eq_true, decide_eq_true_eq] at h10
            exact ⟨h10.1, sameObj_eq h10.2⟩
      | alloc =>
        rw [hc] at this
        simp only [Bool.or_eq_true, decide_eq_true_eq] at this ⊢
        rcases this with (h | h) | h
        · exact .inl h
        · exact .inr (.inl h)
        · exact .inr (.inr (sameObj_eq h))
      | pure => trivial
      | held => trivial

end Go.Am

namespace Go.Am
variable {P : Program}

theorem stepD_next' {ext : FuncId → Option Ext} {call : CallC} {ops : Array Oper} {a : ActC} {s : St} {steps : List Step} (h : opsD P ext call ops.toList ops.toList a s = some steps)
    (ht : textOk P ops.toList (befores [] ops.toList) = true) (hr : rowsOk P ops.toList (befores [] ops.toList) steps = true) {l : Step} (hl : steps[ops.size]? = some l) : s.next ≤ l.st.next := by
  have R := reg_of h ht hr
  have := R.mono' (Nat.zero_le ops.size) (Nat.le_refl _)
  obtain ⟨_, h2, _⟩ := opsD_spec _ _ _ _ h
  simpa [stOf, h2, hl] using this

theorem codeC_next {ext : FuncId → Option Ext} {call : CallC} : ∀ (n : Nat) (c : Code) (a : ActC) (s : St) (ex : ExC) (a1 : ActC) (s1 : St), codeC P ext call n c a s = some (ex, a1, s1) → s.next ≤ s1.next := by
  intro n
  induction n with
  | zero => intro c a s ex a1 s1 h; simp [codeC_zero] at h
  | succ n ih =>
    intro c a s ex a1 s1 h
    cases c with
    | skip => simp only [codeC_succ, codeSel] at h; cases h; exact Nat.le_refl _
    | ret => simp only [codeC_succ, codeSel] at h; cases h; exact Nat.le_refl _
    | exit id => simp only [codeC_succ, codeSel] at h; cases h; exact Nat.le_refl _
    | seq x y =>
      simp only [codeC_succ, codeSel, seqF] at h
      split at h
      · rename_i a' s' hx
        exact Nat.le_trans (ih _ _ _ _ _ _ hx) (ih _ _ _ _ _ _ h)
      · exact ih _ _ _ _ _ _ h
    | cond c x y =>
      simp only [codeC_succ, codeSel, condF] at h
      split at h
      · cases h
      · split at h
        · exact ih _ _ _ _ _ _ h
        · exact ih _ _ _ _ _ _ h
        · cases h
    | block id x =>
      simp only [codeC_succ, codeSel, blockF] at h
      split at h
      · rename_i id' a' s' hx
        have := ih _ _ _ _ _ _ hx
        split at h <;> (simp only [Option.some.injEq, Prod.mk.injEq] at h; rw [← h.2.2]; exact this)
      · exact ih _ _ _ _ _ _ h
    | loop x =>
      simp only [codeC_succ, codeSel, loopF] at h
      split at h
      · rename_i a' s' hx
        exact Nat.le_trans (ih _ _ _ _ _ _ hx) (ih _ _ _ _ _ _ h)
      · exact ih _ _ _ _ _ _ h
    | region id ops drawn =>
      cases drawn with
      | false =>
        simp only [codeC_succ, codeSel, regionF] at h
        split at h
        · rename_i a' s' hx
          simp only [Option.some.injEq, Prod.mk.injEq] at h
          rw [← h.2.2]; exact opsC_next _ _ _ _ _ hx
        · cases h
      | true =>
        simp only [codeC_succ, codeSel, drawnF] at h
        split at h
        · cases h
        · rename_i steps hx
          split at h
          · rename_i hok
            simp only [Bool.and_eq_true] at hok
            split at h
            · rename_i l hl
              simp only [Option.some.injEq, Prod.mk.injEq] at h
              rw [← h.2.2]; exact stepD_next' hx hok.1 hok.2 hl
            · cases h
          · cases h
    | _ => simp [codeC_succ, codeSel] at h

/-- a loop that has been entered -/
def LoopWp (P : Program) (c : Code) (Q : Exit → Act → World → Prop) (a : Act) (w : World) : Prop :=
  ∀ (b : Frame) (k : List Item) (cs : List Frame),
    ∃ e a' w', Q e a' w' ∧ Arrives P (lone (b.at a (.code c :: .inLoop c :: k)) cs w) b k cs e a' w'

theorem LoopWp.loop {c : Code} {Q : Exit → Act → World → Prop} {a : Act} {w : World} (h : LoopWp P c Q a w) : (Code.loop c).wp P Q a w := by
  intro b k cs
  obtain ⟨e, a', w', hq, harr⟩ := h b k cs
  exact ⟨e, a', w', hq, .of_steps (.one step_loop) harr⟩

theorem LoopWp.round {c : Code} {Q : Exit → Act → World → Prop} {a : Act} {w : World} (h : c.wp P (Exit.then (LoopWp P c Q) Q) a w) : LoopWp P c Q a w := by
  intro b k cs
  obtain ⟨e, a₁, w₁, hq, harr⟩ := h b (.inLoop c :: k) cs
  cases e with
  | normal =>
    obtain ⟨e₂, a₂, w₂, hq₂, harr₂⟩ := hq b k cs
    exact ⟨e₂, a₂, w₂, hq₂, .of_steps (Steps.trans harr (.one step_inLoop)) harr₂⟩
  | exit id => exact ⟨_, a₁, w₁, hq, .pass (x := .inLoop c) rfl (fun _ _ => .inl (by simp)) harr⟩
  | goto l => exact ⟨_, a₁, w₁, hq, .pass (x := .inLoop c) rfl (fun _ _ => .inl (by simp)) harr⟩
  | ret => exact ⟨_, a₁, w₁, hq, .pass (x := .inLoop c) rfl (fun _ _ => .inl (by simp)) harr⟩
  | panic ch => exact ⟨_, a₁, w₁, hq, .pass (x := .inLoop c) rfl (fun _ _ => .inl (by simp)) harr⟩
  | outgrown => exact ⟨_, a₁, w₁, hq, .pass (x := .inLoop c) rfl (fun _ _ => .inl (by simp)) harr⟩

def exitOf : ExC → Exit
  | .normal => .normal
  | .exit id => .exit id
  | .ret => .ret

/-- what a piece of code does on both sides -/
def Goes (P : Program) (W : (Exit → Act → World → Prop) → Act → World → Prop) (a : ActC) (s : St) (ex : ExC) (a1 : ActC) (s1 : St) : Prop :=
  ∀ (ρ : Ren) (a' : Act) (w : World) (N : Nat) (Q : Exit → Act → World → Prop), ActR P ρ a a' → R P ρ s w → WF s → s1.next ≤ N → N ≤ lim → Free ρ s.next N →
    (∀ a1' w1 ρ1, Out P ρ s w ρ1 s1 w1 → ActR P ρ1 a1 a1' → Q (exitOf ex) a1' w1) → W Q a' w

theorem codeC_sound {ext : FuncId → Option Ext} {call : CallC} (hz : Fine P) (hext : ExtOk P ext) (hcall : CallSound P call) (hm : P.follows .mixedOrders = true) :
    ∀ (n : Nat), (∀ (c : Code) (a : ActC) (s : St) (ex : ExC) (a1 : ActC) (s1 : St), codeC P ext call n c a s = some (ex, a1, s1) → Goes P (c.wp P) a s ex a1 s1) ∧
      (∀ (x : Code) (a : ActC) (s : St) (ex : ExC) (a1 : ActC) (s1 : St), codeC P ext call n (.loop x) a s = some (ex, a1, s1) → Goes P (LoopWp P x) a s ex a1 s1) := by
  intro n
  induction n with
  | zero => exact ⟨fun c a s ex a1 s1 h => by simp [codeC_zero] at h, fun c a s ex a1 s1 h => by simp [codeC_zero] at h⟩
  | succ n ih =>
    obtain ⟨ih1, ih2⟩ := ih
    have hloop : ∀ (x : Code) (a : ActC) (s : St) (ex : ExC) (a1 : ActC) (s1 : St), codeC P ext call (n + 1) (.loop x) a s = some (ex, a1, s1) → Goes P (LoopWp P x) a s ex a1 s1 := by
      intro x a s ex a1 s1 h ρ a' w N Q hA hR hwf hN hl hfree hQ
      simp only [codeC_succ, codeSel, loopF] at h
      refine LoopWp.round ?_
      split at h
      · rename_i a2 s2 hx
        have h1 := codeC_next _ _ _ _ _ _ _ hx
        have h2 := codeC_next _ _ _ _ _ _ _ h
        refine ih1 _ _ _ _ _ _ hx ρ a' w N _ hA hR hwf (Nat.le_trans h2 hN) hl hfree ?_
        intro a2' w2 ρ2 hout hA2
        exact ih2 _ _ _ _ _ _ h ρ2 a2' w2 N Q hA2 hout.r hout.wf hN hl (hout.free hfree) fun a3' w3 ρ3 hout3 hA3 =>
          hQ a3' w3 ρ3 (hout.trans hout3 fun b hb hb' => hfree b hb (by omega)) hA3
      · rename_i hnn
        refine ih1 _ _ _ _ _ _ h ρ a' w N _ hA hR hwf hN hl hfree ?_
        intro a2' w2 ρ2 hout hA2
        have := hQ a2' w2 ρ2 hout hA2
        cases ex with
        | normal => exact absurd h (hnn a1 s1)
        | exit id => exact this
        | ret => exact this
    refine ⟨fun c => ?_, hloop⟩
    cases c with
    | skip =>
      intro a s ex a1 s1 h ρ a' w N Q hA hR hwf hN hl hfree hQ
      simp only [codeC_succ, codeSel] at h; cases h
      exact wp_skip (hQ a' w ρ (.refl hR hwf) hA)
    | ret =>
      intro a s ex a1 s1 h ρ a' w N Q hA hR hwf hN hl hfree hQ
      simp only [codeC_succ, codeSel] at h; cases h
      exact wp_ret (hQ a' w ρ (.refl hR hwf) hA)
    | exit id =>
      intro a s ex a1 s1 h ρ a' w N Q hA hR hwf hN hl hfree hQ
      simp only [codeC_succ, codeSel] at h; cases h
      exact wp_exit (hQ a' w ρ (.refl hR hwf) hA)
    | seq x y =>
      intro a s ex a1 s1 h ρ a' w N Q hA hR hwf hN hl hfree hQ
      simp only [codeC_succ, codeSel, seqF] at h
      refine wp_seq ?_
      split at h
      · rename_i a2 s2 hx
        have h1 := codeC_next _ _ _ _ _ _ _ hx
        have h2 := codeC_next _ _ _ _ _ _ _ h
        refine ih1 _ _ _ _ _ _ hx ρ a' w N _ hA hR hwf (Nat.le_trans h2 hN) hl hfree ?_
        intro a2' w2 ρ2 hout hA2
        exact ih1 _ _ _ _ _ _ h ρ2 a2' w2 N Q hA2 hout.r hout.wf hN hl (hout.free hfree) fun a3' w3 ρ3 hout3 hA3 =>
          hQ a3' w3 ρ3 (hout.trans hout3 fun b hb hb' => hfree b hb (by omega)) hA3
      · rename_i hnn
        refine ih1 _ _ _ _ _ _ h ρ a' w N _ hA hR hwf hN hl hfree ?_
        intro a2' w2 ρ2 hout hA2
        have := hQ a2' w2 ρ2 hout hA2
        cases ex with
        | normal => exact absurd h (hnn a1 s1)
        | exit id => exact this
        | ret => exact this
    | cond c x y =>
      intro a s ex a1 s1 h ρ a' w N Q hA hR hwf hN hl hfree hQ
      simp only [codeC_succ, codeSel, condF] at h
      split at h
      · cases h
      · rename_i hcst
        have hcst' : constOk c = true := by simpa using hcst
        have hv := eval_rel (P := P) (ρ := ρ) (a := a) (a' := a') (x := c) (fun t _ => hA.at_ t) hcst'
        split at h
        · rename_i he
          rw [he] at hv
          generalize hq : a'.eval c = q at hv
          cases hv
          exact wp_cond_true hq (ih1 _ _ _ _ _ _ h ρ a' w N Q hA hR hwf hN hl hfree hQ)
        · rename_i he
          rw [he] at hv
          generalize hq : a'.eval c = q at hv
          cases hv
          exact wp_cond_false hq (ih1 _ _ _ _ _ _ h ρ a' w N Q hA hR hwf hN hl hfree hQ)
        · cases h
    | block id x =>
      intro a s ex a1 s1 h ρ a' w N Q hA hR hwf hN hl hfree hQ
      simp only [codeC_succ, codeSel, blockF] at h
      refine wp_block ?_
      split at h
      · rename_i id' a2 s2 hx
        have hs : s2 = s1 ∧ a2 = a1 := by
          split at h <;> (simp only [Option.some.injEq, Prod.mk.injEq] at h; exact ⟨h.2.2, h.2.1⟩)
        obtain ⟨rfl, rfl⟩ := hs
        refine ih1 _ _ _ _ _ _ hx ρ a' w N _ hA hR hwf hN hl hfree ?_
        intro a2' w2 ρ2 hout hA2
        have := hQ a2' w2 ρ2 hout hA2
        show Exit.inBlock id Q (.exit id') a2' w2
        unfold Exit.inBlock
        split at h
        · rename_i he
          simp only [Option.some.injEq, Prod.mk.injEq] at h
          simp only [if_pos he]
          rw [← h.1] at this; exact this
        · rename_i he
          simp only [Option.some.injEq, Prod.mk.injEq] at h
          simp only [if_neg he]
          rw [← h.1] at this; exact this
      · rename_i hne
        refine ih1 _ _ _ _ _ _ h ρ a' w N _ hA hR hwf hN hl hfree ?_
        intro a2' w2 ρ2 hout hA2
        have := hQ a2' w2 ρ2 hout hA2
        cases ex with
        | normal => exact this
        | exit id' => exact absurd h (hne id' a1 s1)
        | ret => exact this
    | loop x =>
      intro a s ex a1 s1 h ρ a' w N Q hA hR hwf hN hl hfree hQ
      exact (hloop x a s ex a1 s1 h ρ a' w N Q hA hR hwf hN hl hfree hQ).loop
    | region id ops drawn =>
      intro a s ex a1 s1 h ρ a' w N Q hA hR hwf hN hl hfree hQ
      cases drawn with
      | false =>
        simp only [codeC_succ, codeSel, regionF] at h
        split at h
        · rename_i a2 s2 hx
          cases h
          refine wp_region ?_
          have := (opsC_sound hz hext hcall (ops := ops) (Q := Q) ops.toList 0 (fun k o hk => by rw [Nat.zero_add, ← Array.getElem?_toList]; exact hk) a s _ _ a' ρ w N hx hA hR hwf hN hl hfree hQ).1
          simpa using this
        · cases h
      | true =>
        simp only [codeC_succ, codeSel, drawnF] at h
        split at h
        · cases h
        · rename_i steps hx
          split at h
          · rename_i hok
            simp only [Bool.and_eq_true] at hok
            split at h
            · rename_i l hl'
              cases h
              have Rg := reg_of hx hok.1 hok.2
              obtain ⟨_, h2, _⟩ := opsD_spec _ _ _ _ hx
              have e0 : stOf steps 0 = s := by simp [stOf, h2]
              have e1 : acOf steps 0 = a := by simp [acOf, h2]
              have e2 : stOf steps ops.size = l.st := by simp [stOf, hl']
              have e3 : acOf steps ops.size = l.act := by simp [acOf, hl']
              refine region_any hz hext hcall Rg hm (by rw [e1]; exact hA) (by rw [e0]; exact hR) (by rw [e0]; exact hwf) (N := N) (by rw [e2]; exact hN) hl (by rw [e0]; exact hfree) ?_
              intro a1' w1 ρ1 hout hA1
              rw [e0, e2] at hout
              rw [e3] at hA1
              exact hQ a1' w1 ρ1 hout hA1
            · cases h
          · cases h
    | _ => intro a s ex a1 s1 h; simp [codeC_succ, codeSel] at h

/-! ## Calls -/
theorem setAll_get : ∀ (l : List Value) (i : Nat) (t : Tr Value) (k : Nat), i + l.length ≤ 2 ^ 20 → (setAll l i t).get k = if i ≤ k ∧ k < i + l.length then l[k - i]? else t.get k := by
  intro l
  induction l with
  | nil => intro i t k _; rw [setAll_nil, if_neg]; simp
  | cons v l ih =>
    intro i t k h
    simp only [List.length_cons] at h
    rw [setAll_cons]
    rw [ih (i + 1) _ k (by omega)]
    by_cases hk : i = k
    · subst hk
      rw [if_neg (by omega), Tr.get_set_same _ _ _ _ (by unfold deep; omega), if_pos (by simp)]
      simp
    · rw [Tr.get_set_ne _ _ _ _ _ hk]
      by_cases h1 : i + 1 ≤ k ∧ k < i + 1 + l.length
      · rw [if_pos h1, if_pos (by simp only [List.length_cons]; omega)]
        have : k - i = (k - (i + 1)) + 1 := by omega
        rw [this, List.getElem?_cons_succ]
      · rw [if_neg h1, if_neg (by simp only [List.length_cons]; omega)]

theorem args_rel {ρ : Ren} {args args' : Array Value} (h : VRs P ρ args args') {n : Nat} (hn : max args.size n ≤ 2 ^ 20) :
    ActR P ρ ⟨setAll args.toList 0 .e, max args.size n⟩ { tmps := args' ++ Array.replicate (n - args'.size) undef, defers := [] } := by
  have hs := h.size
  refine ⟨by simp; omega, hn, fun t => ?_, rfl⟩
  simp only [ActC.get]
  rw [setAll_get _ _ _ _ (by simp; omega)]
  simp only [Nat.zero_le, true_and, Nat.zero_add, Nat.sub_zero, Array.length_toList]
  by_cases ht : t < args.size
  · rw [if_pos ht]
    have ht' : t < args'.size := hs ▸ ht
    have e1 : args.toList[t]? = some args[t] := by simp [ht]
    rw [e1]
    have e2 : (args' ++ Array.replicate (n - args'.size) undef).getD t undef = args'[t] := by
      simp [Array.getD_eq_getD_getElem?, Array.getElem?_append, ht']
    rw [e2]
    exact h.at_ t ht ht'
  · rw [if_neg ht]
    have e2 : (args' ++ Array.replicate (n - args'.size) undef).getD t undef = undef := by
      rw [Array.getD_eq_getD_getElem?, Array.getElem?_append, if_neg (by omega), Array.getElem?_replicate]
      split <;> rfl
    rw [e2]
    exact vr_undef

end Go.Am

namespace Go.Am
variable {P : Program}

/-! ## Results -/
def RoW (P : Program) {α : Type} (S : Sem α) : Prop := ∀ w x w1, S.run P w = .ok x w1 → w1 = w
theorem RoW.pure {α : Type} (x : α) : RoW P (Pure.pure x : Sem α) := fun w y w1 h => by
  have h' : Result.ok x w = Result.ok y w1 := h
  cases h'; rfl
theorem RoW.bind {α β : Type} {S : Sem α} {k : α → Sem β} (h : RoW P S) (hk : ∀ x, RoW P (k x)) : RoW P (S >>= k) := by
  intro w x w1 hr
  rw [run_bindA] at hr
  cases h0 : S.run P w with
  | ok y w' =>
    rw [h0] at hr
    have e := h w y w' h0
    subst e
    exact hk y _ x w1 hr
  | halt e w' => rw [h0] at hr; cases hr
theorem RoW.halt {α : Type} (h : Halt) : RoW P (Sem.halt h : Sem α) := fun w x w1 h => by simp [Sem.run] at h
theorem RoW.stuck {α : Type} (m : String) : RoW P (Go.stuck m : Sem α) := RoW.halt _
theorem RoW.load (a : Addr) (m : Mode) : RoW P (Go.load a m) := by
  intro w x w1 h
  unfold Go.load at h
  simp only [Sem.run] at h
  split at h
  · cases h; rfl
  · split at h
    · cases h; rfl
    all_goals cases h
theorem RoW.program {α : Type} {k : Program → Sem α} (h : RoW P (k P)) : RoW P (Sem.program k) := fun w x w1 hr => by simp only [Sem.run] at hr; exact h w x w1 hr
theorem RoW.und (t : TypeId) : RoW P (underlying t) := by
  unfold underlying
  refine RoW.bind (RoW.program (RoW.pure _)) fun p => ?_
  split
  · exact RoW.pure _
  · exact RoW.stuck _
theorem RoW.size (t : TypeId) : RoW P (sizeOf t) := by
  unfold sizeOf
  refine RoW.bind ?_ fun _ => RoW.pure _
  unfold typeInfo
  refine RoW.bind (RoW.program (RoW.pure _)) fun p => ?_
  split
  · exact RoW.pure _
  · exact RoW.stuck _
theorem RoW.cells (a : Addr) : ∀ (n i : Nat) (acc : Array Value), RoW P (loadCellsFrom a i n acc)
  | 0, _, _ => RoW.pure _
  | n + 1, i, acc => by
    unfold loadCellsFrom
    exact RoW.bind (RoW.load _ _) fun _ => RoW.cells a n _ _
theorem RoW.var (t : TypeId) (a : Addr) : RoW P (loadVar t a) := by
  unfold loadVar
  refine RoW.bind ?_ fun b => ?_
  · unfold isAgg
    refine RoW.bind (RoW.und t) fun d => ?_
    split <;> exact RoW.pure _
  · split
    · exact RoW.bind (RoW.size t) fun n => RoW.bind (RoW.cells _ _ _ _) fun _ => RoW.pure _
    · exact RoW.load _ _

def oneResult (tmps : Array Value) : ResultVar → Sem Value
  | .tmp t => Pure.pure (tmps.getD t undef)
  | .cell a t => do loadVar t (← asAddr (tmps.getD a undef))

theorem results_eq (fn : Func) (tmps : Array Value) : results fn tmps = (do
    let vs ← fn.results.mapM (oneResult tmps)
    Pure.pure (if h : vs.size = 1 then vs[0] else .tuple vs)) := by
  have e : (fun r : ResultVar => match r with
    | .tmp t => (Pure.pure (tmps.getD t undef) : Sem Value)
    | .cell a t => do loadVar t (← asAddr (tmps.getD a undef))) = oneResult tmps := by
    funext r; cases r <;> rfl
  unfold results
  rw [← e]
  rfl

inductive VL (P : Program) (ρ : Ren) : List Value → List Value → Prop
  | nil : VL P ρ [] []
  | cons {v v' : Value} {l l' : List Value} (h : VR P ρ v v') (t : VL P ρ l l') : VL P ρ (v :: l) (v' :: l')

theorem VL.array {ρ : Ren} : ∀ {l l' : List Value}, VL P ρ l l' → VRs P ρ l.toArray l'.toArray := by
  intro l l' h
  refine .of_get ?_ fun i v hv => ?_
  · induction h with
    | nil => rfl
    | cons _ _ ih => simpa using ih
  · simp only [List.getElem?_toArray] at hv ⊢
    induction h generalizing i with
    | nil => simp at hv
    | cons h _ ih =>
      cases i with
      | zero => simp only [List.getElem?_cons_zero, Option.some.injEq] at hv ⊢; subst hv; exact ⟨_, rfl, h⟩
      | succ i => simp only [List.getElem?_cons_succ] at hv ⊢; exact ih i hv

theorem one_run {ρ : Ren} {a : ActC} {a' : Act} {s : St} {w : World} (hA : ActR P ρ a a') (hR : R P ρ s w) (hwf : WF s) : ∀ (rs : List ResultVar) (vs : List Value), resC P a s rs = some vs →
    ∃ vs', (rs.mapM (oneResult a'.tmps)).run P w = .ok vs' w ∧ VL P ρ vs vs' := by
  intro rs
  induction rs with
  | nil => intro vs h; simp only [resC] at h; cases h; exact ⟨[], by simp [List.mapM_nil], .nil⟩
  | cons r rs ih =>
    intro vs h
    cases r with
    | tmp t =>
      simp only [resC] at h
      cases hr : resC P a s rs with
      | none => rw [hr] at h; cases h
      | some l =>
        rw [hr] at h; simp only [Option.map_some, Option.some.injEq] at h; subst h
        obtain ⟨vs', h1, h2⟩ := ih l hr
        refine ⟨a'.tmps.getD t undef :: vs', ?_, .cons (hA.at_ t) h2⟩
        rw [List.mapM_cons, run_bindA]
        have e1 : (oneResult a'.tmps (.tmp t)).run P w = .ok (a'.tmps.getD t undef) w := rfl
        rw [e1]
        simp only
        rw [run_bindA, h1]; rfl
    | cell ad t =>
      simp only [resC] at h
      split at h
      · rename_i p hp
        split at h
        · rename_i v _ vs0 hl hr
          cases h
          obtain ⟨vs', h1, h2⟩ := ih vs0 hr
          have hv := hA.at_ ad
          rw [hp] at hv
          generalize hq : a'.tmps.getD ad undef = q at hv
          cases hv with
          | ptr _ g hg =>
            have hs := sim_loadVar (P := P) (ρ := ρ) (a := p) (a' := ⟨g.blk, p.off, p.spot⟩) ⟨g, hg, rfl⟩ t
            have hro : _ := (Ro.var t p) s _ _ hl
            subst hro
            obtain ⟨x', w1, ρ1, h3, h4, h5⟩ := hs _ w v _ _ hl hR hwf (Nat.le_refl _) hwf.le (fun b h6 h7 => by omega)
            have hw1 := (RoW.var t _) w x' w1 h3
            subst hw1
            have hle : Le ρ1 ρ := by
              intro b g' hb
              cases h0 : ρ b with
              | none => have := h4.new b g' hb h0; omega
              | some g0 => rw [h4.le b g0 h0] at hb; exact hb
            refine ⟨x' :: vs', ?_, .cons (h5.mono hle) h2⟩
            rw [List.mapM_cons, run_bindA]
            have e1 : (oneResult a'.tmps (.cell ad t)).run P w1 = .ok x' w1 := by
              show (asAddr (a'.tmps.getD ad undef) >>= fun q => loadVar t q).run P w1 = _
              rw [hq]; exact h3
            rw [e1]
            simp only
            rw [run_bindA, h1]; rfl
        · cases h
      · cases h

theorem results_run {ρ : Ren} {a : ActC} {a' : Act} {s : St} {w : World} (hA : ActR P ρ a a') (hR : R P ρ s w) (hwf : WF s) {fn : Func} {vs : List Value} (h : resC P a s fn.results.toList = some vs) :
    ∃ v', (results fn a'.tmps).run P w = .ok v' w ∧ VR P ρ (retC vs) v' := by
  obtain ⟨vs', h1, h2⟩ := one_run hA hR hwf _ _ h
  rw [results_eq]
  rw [Array.mapM_eq_mapM_toList]
  have e : ((List.toArray <$> fn.results.toList.mapM (oneResult a'.tmps)) >>= fun (vs : Array Value) => (Pure.pure (if h : vs.size = 1 then vs[0] else .tuple vs) : Sem Value)).run P w
      = .ok (if h : vs'.toArray.size = 1 then vs'.toArray[0] else .tuple vs'.toArray) w := by
    rw [map_eq_pure_bind, run_bindA, run_bindA, h1]; rfl
  refine ⟨_, e, ?_⟩
  have harr := h2.array
  cases h2 with
  | nil => exact .tuple _ _ harr.size harr.at_
  | cons hv ht =>
    cases ht with
    | nil => exact hv
    | cons hv' ht' =>
      rw [dif_neg (by simp)]
      exact .tuple _ _ harr.size harr.at_

/-! ## All calls -/
def KnownOk (P : Program) (known : FuncId → Option CallC) : Prop :=
  ∀ (f : FuncId) (k : CallC), known f = some k → ∀ (args : Array Value) (s : St) (v : Value) (s1 : St), k f args s = some (v, s1) →
    ∀ (ρ : Ren) (args' : Array Value) (w : World) (N : Nat), VRs P ρ args args' → R P ρ s w → WF s → s1.next ≤ N → N ≤ lim → Free ρ s.next N →
      Calls P f args' w fun e w1 => ∃ v' ρ1, e = .returned v' ∧ Out P ρ s w ρ1 s1 w1 ∧ VR P ρ1 v v'

theorem callC_sound {ext : FuncId → Option Ext} {known : FuncId → Option CallC} (hz : Fine P) (hext : ExtOk P ext) (hm : P.follows .mixedOrders = true) (hk : KnownOk P known) (fuel : Nat) :
    ∀ n, CallSound P (callC P ext known fuel n) := by
  intro n
  induction n with
  | zero => intro f args s v s1 h; simp [callC_zero] at h
  | succ n ih =>
    intro f args s v s1 h ρ args' w N hargs hR hwf hN hl hfree
    rw [callC_succ] at h
    unfold callS at h
    split at h
    · rename_i k hkn
      exact hk f k hkn args s v s1 h ρ args' w N hargs hR hwf hN hl hfree
    · split at h
      · cases h
      · rename_i fn hfn
        split at h
        · cases h
        · rename_i c hc
          split at h
          · cases h
          · rename_i hsz
            have hfin : ∀ (ex : ExC) (a : ActC) (s' : St), codeC P ext (callC P ext known fuel n) fuel c ⟨setAll args.toList 0 .e, max args.size fn.ntmps⟩ s = some (ex, a, s') → (exitOf ex = .normal ∨ exitOf ex = .ret) →
                (match resC P a s' fn.results.toList with | some vs => some (retC vs, s') | none => none) = some (v, s1) →
                Calls P f args' w fun e w1 => ∃ v' ρ1, e = .returned v' ∧ Out P ρ s w ρ1 s1 w1 ∧ VR P ρ1 v v' := by
              intro ex a s' hcode hex hres
              cases hr : resC P a s' fn.results.toList with
              | none => rw [hr] at hres; cases hres
              | some vs =>
                rw [hr] at hres
                simp only [Option.some.injEq, Prod.mk.injEq] at hres
                obtain ⟨rfl, rfl⟩ := hres
                refine calls_of_wp hfn hc ?_
                have hA := args_rel (P := P) hargs (n := fn.ntmps) (by omega)
                refine (codeC_sound hz hext ih hm fuel).1 c _ s ex a s' hcode ρ _ w N _ hA hR hwf hN hl hfree ?_
                intro a1' w1 ρ1 hout hA1
                obtain ⟨v', h1, h2⟩ := results_run hA1 hout.r hout.wf hr
                rcases hex with e | e <;> rw [e] <;> exact ⟨hA1.defers, v', h1, v', ρ1, rfl, hout, h2⟩
            split at h
            · cases h
            · cases h
            · rename_i ex a s' hne hcode
              refine hfin ex a s' hcode ?_ h
              cases ex with
              | normal => exact .inl rfl
              | ret => exact .inr rfl
              | exit id => exact (hne id rfl).elim

end Go.Am
