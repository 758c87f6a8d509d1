import Derived.Test.YtkandjlcimggkaaGreatDoorAm5
import Derived.Test.YtkandjlcimggkaaGreatDoorAm4
import Derived.Test.YtkandjlcimggkaaGreatDoorAm2
import Derived.Below
namespace Go.Am
variable {P : Program}

/-- what the draws mean: 'J': all that is known besides, at so many draws; 'orc k n': what the draw number 'k' gives at the bound 'n' -/
structure JOk (P : Program) (d : SpIds) (orc : Nat → Nat → Nat) (J : Ren → St → World → Nat → Prop) : Prop where
  op : ∀ (ρ : Ren) (s : St) (w : World) (ρ1 : Ren) (s1 : St) (w1 : World) (k N : Nat), J ρ s w k → Out P ρ s w ρ1 s1 w1 → Free ρ s.next N → s1.next ≤ N → J ρ1 s1 w1 k
  mode : ∀ (ρ : Ren) (s : St) (w : World) (k : Nat) (g : G), k < 1000 → J ρ s w k → R P ρ s w → ρ d.box = some g →
    Calls P d.mode #[.pointer (some ⟨g.blk, 0, none⟩)] w fun e w1 => e = .returned (.int .i64 (.ofNat (1 + orc k 3))) ∧ R P ρ s w1 ∧ J ρ s w1 (k + 1)
  next : ∀ (ρ : Ren) (s : St) (w : World) (k : Nat) (g : G) (n : Nat), k < 1000 → (n = 2 ∨ n = 6) → J ρ s w k → R P ρ s w → ρ d.box = some g →
    Calls P d.next #[.pointer (some ⟨g.blk, 0, none⟩), .int .i64 (.ofNat n)] w fun e w1 => e = .returned (.int .i64 (.ofNat (orc k n))) ∧ R P ρ s w1 ∧ J ρ s w1 (k + 1)
  body : (∃ fn c, P.funcs[d.mode]? = some fn ∧ fn.body = some c) ∧ ∃ fn c, P.funcs[d.next]? = some fn ∧ fn.body = some c

/-- the script says what will be drawn -/
def Fits (orc : Nat → Nat → Nat) (k : Nat) (l : Script) : Prop := k + l.length ≤ 1000 ∧ ∀ (i n v : Nat), l[i]? = some (n, v) → orc (k + i) n = v

theorem Fits.tail {orc : Nat → Nat → Nat} {k : Nat} {p : Nat × Nat} {l : Script} (h : Fits orc k (p :: l)) : Fits orc (k + 1) l := by
  refine ⟨by have := h.1; simp only [List.length_cons] at this; omega, fun i n v hi => ?_⟩
  have := h.2 (i + 1) n v (by simpa using hi)
  rw [← this]; congr 1; omega

/-- what a piece of the top function's code does on both sides -/
def GoesN (P : Program) (orc : Nat → Nat → Nat) (J : Ren → St → World → Nat → Prop) (W : (Exit → Act → World → Prop) → Act → World → Prop) (a : ActC) (s : St) (l : Script) (ex : ExC) (a1 : ActC) (s1 : St) (l1 : Script) : Prop :=
  ∀ (ρ : Ren) (a' : Act) (w : World) (k N : Nat) (Q : Exit → Act → World → Prop), ActR P ρ a a' → R P ρ s w → WF s → s1.next ≤ N → N ≤ lim → Free ρ s.next N → J ρ s w k → Fits orc k l →
    (∀ a1' w1 ρ1, ActR P ρ1 a1 a1' → R P ρ1 s1 w1 → WF s1 → Free ρ1 s1.next N → J ρ1 s1 w1 (k + (l.length - l1.length)) → Fits orc (k + (l.length - l1.length)) l1 → l1.length ≤ l.length → Q (exitOf ex) a1' w1) → W Q a' w

section
variable {ext : FuncId → Option Ext} {call : CallC} {d : SpIds} {orc : Nat → Nat → Nat} {J : Ren → St → World → Nat → Prop}

theorem box_rel {ρ : Ren} {v v' : Value} (h : VR P ρ v v') (hb : isBox d v = true) : ∃ g, ρ d.box = some g ∧ v' = .pointer (some ⟨g.blk, 0, none⟩) := by
  unfold isBox at hb
  split at hb
  · rename_i p
    simp only [Bool.and_eq_true, beq_iff_eq, Option.isNone_iff_eq_none] at hb
    obtain ⟨⟨h1, h2⟩, h3⟩ := hb
    cases h with
    | ptr _ g hg => rw [h1] at hg; rw [h2, h3]; exact ⟨g, hg, rfl⟩
  · cases hb

theorem drawC_spec {o : Oper} {a : ActC} {s : St} {x : Operand} {n : Nat} {f : Nat → Nat} {l : Script} {a1 : ActC} {s1 : St} {l1 : Script} (h : drawC d o a s x n f l = some (a1, s1, l1)) :
    ∃ v, l = (n, v) :: l1 ∧ isBox d (a.eval x) = true ∧ a1 = a.put o.dst (.int .i64 (.ofNat (f v))) ∧ s1 = s := by
  unfold drawC at h
  split at h
  · rename_i m v rest
    split at h
    · rename_i hc
      cases h
      exact ⟨v, by rw [hc.1], hc.2, rfl, rfl⟩
    · cases h
  · cases h

theorem stepN_spec {ops : List Oper} {o : Oper} {a a1 : ActC} {s s1 : St} {l l1 : Script} (h : stepN P ext call d ops o a s l = some (a1, s1, l1)) :
    (spOf d o = none ∧ stepC P ext call ops o a s = some (a1, s1) ∧ l1 = l) ∨
    (∃ q, spOf d o = some q ∧ o.guard = none ∧ o.op.operands.toList.all constOk = true ∧
      ((∃ x, q = .mode x ∧ drawC d o a s x 3 (fun v => 1 + v) l = some (a1, s1, l1)) ∨ ∃ x n, q = .next x n ∧ drawC d o a s x n (fun v => v) l = some (a1, s1, l1))) := by
  unfold stepN at h
  split at h
  · rename_i hs
    split at h
    · rename_i a' s' hst
      cases h
      exact .inl ⟨hs, hst, rfl⟩
    · cases h
  · rename_i q hs
    split at h
    · cases h
    · rename_i hc
      simp only [Bool.or_eq_true, Bool.not_eq_true', not_or, Bool.not_eq_false, Option.isSome_iff_ne_none, ne_eq, Decidable.not_not] at hc
      refine .inr ⟨q, hs, hc.1, hc.2, ?_⟩
      cases q with
      | mode x => exact .inl ⟨x, rfl, h⟩
      | next x n => exact .inr ⟨x, n, rfl, h⟩

theorem stepN_next {ops : List Oper} {o : Oper} {a a1 : ActC} {s s1 : St} {l l1 : Script} (h : stepN P ext call d ops o a s l = some (a1, s1, l1)) : s.next ≤ s1.next := by
  rcases stepN_spec h with ⟨_, h1, _⟩ | ⟨q, _, _, _, ⟨x, _, h1⟩ | ⟨x, n, _, h1⟩⟩
  · exact stepC_next h1
  · obtain ⟨_, _, _, _, rfl⟩ := drawC_spec h1; exact Nat.le_refl _
  · obtain ⟨_, _, _, _, rfl⟩ := drawC_spec h1; exact Nat.le_refl _

theorem opsN_cons {ops : List Oper} {o : Oper} {rest : List Oper} {a : ActC} {s : St} {l : Script} : opsN P ext call d ops (o :: rest) a s l =
    match stepN P ext call d ops o a s l with
    | none => none
    | some (a', s', l') => opsN P ext call d ops rest a' s' l' := by
  simp only [opsN]
  cases stepN P ext call d ops o a s l <;> rfl

theorem opsN_next {ops : List Oper} : ∀ (rest : List Oper) (a : ActC) (s : St) (l : Script) (a1 : ActC) (s1 : St) (l1 : Script), opsN P ext call d ops rest a s l = some (a1, s1, l1) → s.next ≤ s1.next := by
  intro rest
  induction rest with
  | nil => intro a s l a1 s1 l1 h; simp only [opsN] at h; cases h; exact Nat.le_refl _
  | cons o rest ih =>
    intro a s l a1 s1 l1 h
    rw [opsN_cons] at h
    split at h
    · cases h
    · rename_i hst
      exact Nat.le_trans (stepN_next hst) (ih _ _ _ _ _ _ h)

/-- the shape of a call that draws -/
theorem spOf_spec {o : Oper} {q : Sp} (h : spOf d o = some q) : ∃ c : Call, o.op = .call c ∧
    ((∃ x, q = .mode x ∧ c.callee = .value (.func d.mode) ∧ c.args = #[x]) ∨
     (∃ x n, q = .next x n ∧ (n = 2 ∨ n = 6) ∧ c.callee = .value (.func d.next) ∧ c.args = #[x, .const (.int .i64 (.ofNat n))])) := by
  unfold spOf at h
  split at h
  · rename_i c hc
    refine ⟨c, hc, ?_⟩
    split at h
    · rename_i f hf
      split at h
      · rename_i he
        subst he
        split at h
        · rename_i x hx
          cases h
          exact .inl ⟨x, rfl, hf, Array.toList_inj.1 hx⟩
        · cases h
      · split at h
        · rename_i he
          subst he
          split at h
          · rename_i x n hx
            split at h
            · rename_i hn
              cases h
              exact .inr ⟨x, n, rfl, hn, hf, Array.toList_inj.1 hx⟩
            · cases h
          · cases h
        · cases h
    · cases h
  · cases h

theorem wpOp_call {ops : Array Oper} {j : Nat} {o : Oper} {c : Call} {f : FuncId} {fn : Func} {cd : Code} {a' : Act} {w : World} {K : Act → World → Prop} {Q : Exit → Act → World → Prop} {v : Value} {Rr : World → Prop}
    (hng : NoCount P) (hj : ops[j]? = some o) (hg : o.guard = none) (hc : o.op = .call c) (hf : c.callee = .value (.func f)) (hfn : P.funcs[f]? = some fn) (hb : fn.body = some cd)
    (h : Calls P f (c.args.map a'.eval) w fun e w1 => e = .returned v ∧ Rr w1) (hK : ∀ w1, Rr w1 → K (a'.put o.dst v) w1) : wpOp P ops Q j K a' w := by
  unfold wpOp
  have hw : Region.wanted o (yielded ops a'.tmps) = true := by unfold Region.wanted; rw [hg]
  simp only [hj, hw, if_true]
  refine .inl ?_
  unfold Oper.wp
  have he : (execOp a'.eval o).run P w = .ok (.enter f (c.args.map a'.eval)) w := by
    obtain ⟨callee, args, ats⟩ := c
    simp only at hf
    subst hf
    have e1 : execOp a'.eval o = callFunc f (#[] ++ args.map a'.eval ++ #[]) := by
      unfold execOp
      rw [hc]
      simp only [resolve, Act.eval, Deferred.ofValue]
      rfl
    rw [e1]
    have e2 : (#[] ++ args.map a'.eval ++ #[] : Array Value) = args.map a'.eval := by simp
    rw [e2]
    unfold callFunc
    rw [run_bindA]
    have e3 : (program.run P w) = .ok P w := rfl
    rw [e3]
    simp only [hfn, hng f fn hfn, hb, Bool.false_eq_true, if_false, Option.isNone_some]
    rfl
  rw [he]
  show Calls P f (c.args.map a'.eval) w _
  refine Calls.mono h ?_
  rintro e w1 ⟨rfl, hr⟩
  exact hK w1 hr

theorem opsN_sound (hz : Fine P) (hext : ExtOk P ext) (hcall : CallSound P call) (hJ : JOk P d orc J) {ops : Array Oper} {Q : Exit → Act → World → Prop} :
    ∀ (rest : List Oper) (i : Nat), (∀ k o, rest[k]? = some o → ops[i + k]? = some o) →
    ∀ (a : ActC) (s : St) (l : Script) (a1 : ActC) (s1 : St) (l1 : Script) (a' : Act) (ρ : Ren) (w : World) (k N : Nat), opsN P ext call d ops.toList rest a s l = some (a1, s1, l1) →
      ActR P ρ a a' → R P ρ s w → WF s → s1.next ≤ N → N ≤ lim → Free ρ s.next N → J ρ s w k → Fits orc k l →
      (∀ a1' w1 ρ1, ActR P ρ1 a1 a1' → R P ρ1 s1 w1 → WF s1 → Free ρ1 s1.next N → J ρ1 s1 w1 (k + (l.length - l1.length)) → Fits orc (k + (l.length - l1.length)) l1 → l1.length ≤ l.length → Q .normal a1' w1) →
      wpOps P ops Q ((List.range rest.length).map (i + ·)) a' w := by
  intro rest
  induction rest with
  | nil =>
    intro i _ a s l a1 s1 l1 a' ρ w k N h ha hR hwf _ _ hfree hj hf hQ
    simp only [opsN] at h; cases h
    refine hQ a' w ρ ha hR hwf hfree ?_ ?_ (Nat.le_refl _)
    · simpa using hj
    · simpa using hf
  | cons o rest ih =>
    intro i hi a s l a1 s1 l1 a' ρ w k N h ha hR hwf hN hl hfree hj hf hQ
    rw [opsN_cons] at h
    have hil : ((List.range (o :: rest).length).map (i + ·)) = i :: ((List.range rest.length).map (i + 1 + ·)) := by
      simp only [List.length_cons, List.range_succ_eq_map, List.map_cons, Nat.add_zero, List.map_map]
      congr 1
      exact List.map_congr_left fun x _ => by simp only [Function.comp]; omega
    rw [hil, wpOps_cons]
    have ho : ops[i]? = some o := hi 0 o rfl
    have hi' : ∀ k o', rest[k]? = some o' → ops[i + 1 + k]? = some o' := fun k o' hk => by
      have := hi (k + 1) o' (by simpa using hk)
      rw [show i + 1 + k = i + (k + 1) by omega]; exact this
    have hlook : ∀ d, d ∈ o.looksAt ops → VR P ρ (a.get d) (a'.tmps.getD d undef) := fun d _ => ha.at_ d
    have hwe := wanted_eq (P := P) (ρ := ρ) ha.size hlook
    cases hst : stepN P ext call d ops.toList o a s l with
    | none => rw [hst] at h; cases h
    | some p =>
      obtain ⟨a2, s2, l2⟩ := p
      rw [hst] at h
      simp only at h
      have hmono : s2.next ≤ s1.next := opsN_next _ _ _ _ _ _ _ h
      -- a draw
      have draw : ∀ (x : Operand) (n v : Nat) (f : Nat → Nat) (c : Call) (fid : FuncId) (fn : Func) (cd : Code) (more : Array Value), o.guard = none → o.op = .call c → c.callee = .value (.func fid) → c.args.map a'.eval = #[a'.eval x] ++ more →
          P.funcs[fid]? = some fn → fn.body = some cd → constOk x = true → l = (n, v) :: l2 → isBox d (a.eval x) = true → a2 = a.put o.dst (.int .i64 (.ofNat (f v))) → s2 = s →
          (∀ g, ρ d.box = some g → k < 1000 → Calls P fid (#[.pointer (some ⟨g.blk, 0, none⟩)] ++ more) w fun e w1 => e = .returned (.int .i64 (.ofNat (f (orc k n)))) ∧ R P ρ s w1 ∧ J ρ s w1 (k + 1)) →
          wpOp P ops Q i (wpOps P ops Q ((List.range rest.length).map (i + 1 + ·))) a' w := by
        intro x n v f c fid fn cd more hg hc hcal hargs hfn hb hx hlv hbox ha2 hs2 hcalls
        have hxv := eval_rel (P := P) (ρ := ρ) (a := a) (a' := a') (x := x) (fun t _ => ha.at_ t) hx
        obtain ⟨g, hg1, hg2⟩ := box_rel hxv hbox
        have hv : orc k n = v := by have := hf.2 0 n v (by rw [hlv]; rfl); simpa using this
        refine wpOp_call hz.ng ho hg hc hcal hfn hb (v := .int .i64 (.ofNat (f v))) (Rr := fun w1 => R P ρ s w1 ∧ J ρ s w1 (k + 1)) ?_ ?_
        · rw [hargs, hg2, ← hv]; exact hcalls g hg1 (by have h1 := hf.1; rw [hlv, List.length_cons] at h1; omega)
        · rintro w1 ⟨hR1, hJ1⟩
          subst hs2
          have hA : ActR P ρ a2 (a'.put o.dst (.int .i64 (.ofNat (f v)))) := ha2 ▸ ha.put o.dst (.int _ _)
          have hf2 : Fits orc (k + 1) l2 := Fits.tail (hlv ▸ hf)
          refine ih (i + 1) hi' a2 s2 l2 a1 s1 l1 _ ρ w1 (k + 1) N h hA hR1 hwf hN hl hfree hJ1 hf2 ?_
          intro a1' w2 ρ2 q1 q2 q3 q4 q5 q6 q7
          have e : k + (l.length - l1.length) = k + 1 + (l2.length - l1.length) := by rw [hlv, List.length_cons]; omega
          refine hQ a1' w2 ρ2 q1 q2 q3 q4 (by rw [e]; exact q5) (by rw [e]; exact q6) (by rw [hlv, List.length_cons]; omega)
      rcases stepN_spec hst with ⟨_, hst1, rfl⟩ | ⟨q, hsp, hg, hcst, hq⟩
      · simp only [stepC] at hst1
        split at hst1
        · rename_i hwant
          split at hst1
          · rename_i hcst
            cases hop : opK P ext a.eval o s with
            | none => rw [hop] at hst1; cases hst1
            | some r =>
              rw [hop] at hst1
              simp only at hst1
              have hev := evR_of hlook hcst
              refine wpOp_of hz hext hcall ho (hwe ▸ hwant) hev hop hst1 hR hwf (Nat.le_trans hmono hN) hl hfree ?_
              intro v v' w1 ρ1 he _ hout hv
              have hA : ActR P ρ1 a2 (a'.put o.dst v') := he ▸ (ha.mono hout.le).put o.dst hv
              exact ih (i + 1) hi' a2 s2 l2 a1 s1 l1 _ ρ1 w1 k N h hA hout.r hout.wf hN hl (hout.free hfree) (hJ.op _ _ _ _ _ _ _ N hj hout hfree (Nat.le_trans hmono hN)) hf hQ
          · cases hst1
        · rename_i hwant
          cases hst1
          have hwant' : ¬ Region.wanted o (yielded ops a'.tmps) = true := hwe ▸ hwant
          unfold wpOp
          simp only [ho, hwant']
          exact ih (i + 1) hi' _ _ l2 a1 s1 l1 (a'.put o.dst undef) ρ w k N h (ha.put o.dst vr_undef) hR hwf hN hl hfree hj hf hQ
      · obtain ⟨c, hc, hshape⟩ := spOf_spec hsp
        rcases hq with ⟨x, rfl, hd⟩ | ⟨x, n, rfl, hd⟩
        · obtain ⟨v, h1, h2, h3, h4⟩ := drawC_spec hd
          rcases hshape with ⟨x', he, hcal, hargs⟩ | ⟨x', n', he, _⟩
          · cases he
            obtain ⟨fn, cd, hfn, hb⟩ := hJ.body.1
            have hx : constOk x = true := by
              have := List.all_eq_true.1 hcst x (by rw [hc]; simp [Op.operands, Call.operands, hargs])
              exact this
            exact draw x 3 v (fun v => 1 + v) c d.mode fn cd #[] hg hc hcal (by rw [hargs]; simp) hfn hb hx h1 h2 h3 h4 fun g hg1 hk => hJ.mode ρ s w k g hk hj hR hg1
          · cases he
        · obtain ⟨v, h1, h2, h3, h4⟩ := drawC_spec hd
          rcases hshape with ⟨x', he, _⟩ | ⟨x', n', he, hn, hcal, hargs⟩
          · cases he
          · cases he
            obtain ⟨fn, cd, hfn, hb⟩ := hJ.body.2
            have hx : constOk x = true := by
              have := List.all_eq_true.1 hcst x (by rw [hc]; simp [Op.operands, Call.operands, hargs])
              exact this
            exact draw x n v (fun v => v) c d.next fn cd #[.int .i64 (.ofNat n)] hg hc hcal (by rw [hargs]; simp [Act.eval]) hfn hb hx h1 h2 h3 h4 fun g hg1 hk => hJ.next ρ s w k g n hk hn hj hR hg1

theorem codeN_next : ∀ (n : Nat) (c : Code) (a : ActC) (s : St) (l : Script) (ex : ExC) (a1 : ActC) (s1 : St) (l1 : Script), codeN P ext call d n c a s l = some (ex, a1, s1, l1) → s.next ≤ s1.next := by
  intro n
  induction n with
  | zero => intro c a s l ex a1 s1 l1 h; simp [codeN] at h
  | succ n ih =>
    intro c a s l ex a1 s1 l1 h
    cases c with
    | skip => simp only [codeN] at h; cases h; exact Nat.le_refl _
    | ret => simp only [codeN] at h; cases h; exact Nat.le_refl _
    | exit id => simp only [codeN] at h; cases h; exact Nat.le_refl _
    | seq x y =>
      simp only [codeN] at h
      split at h
      · rename_i hx; exact Nat.le_trans (ih _ _ _ _ _ _ _ _ hx) (ih _ _ _ _ _ _ _ _ h)
      · exact ih _ _ _ _ _ _ _ _ h
    | cond c x y =>
      simp only [codeN] at h
      split at h
      · cases h
      · split at h
        · exact ih _ _ _ _ _ _ _ _ h
        · exact ih _ _ _ _ _ _ _ _ h
        · cases h
    | block id x =>
      simp only [codeN] at h
      split at h
      · rename_i id' a' s' l' hx
        have := ih _ _ _ _ _ _ _ _ hx
        split at h <;> (simp only [Option.some.injEq, Prod.mk.injEq] at h; rw [← h.2.2.1]; exact this)
      · exact ih _ _ _ _ _ _ _ _ h
    | loop x =>
      simp only [codeN] at h
      split at h
      · rename_i hx; exact Nat.le_trans (ih _ _ _ _ _ _ _ _ hx) (ih _ _ _ _ _ _ _ _ h)
      · exact ih _ _ _ _ _ _ _ _ h
    | region id ops drawn =>
      cases drawn with
      | false =>
        simp only [codeN] at h
        split at h
        · rename_i a' s' l' hx
          simp only [Option.some.injEq, Prod.mk.injEq] at h
          rw [← h.2.2.1]; exact opsN_next _ _ _ _ _ _ _ hx
        · cases h
      | true => simp [codeN] at h
    | _ => simp [codeN] at h

theorem codeN_sound (hz : Fine P) (hext : ExtOk P ext) (hcall : CallSound P call) (hJ : JOk P d orc J) :
    ∀ (n : Nat), (∀ (c : Code) (a : ActC) (s : St) (l : Script) (ex : ExC) (a1 : ActC) (s1 : St) (l1 : Script), codeN P ext call d n c a s l = some (ex, a1, s1, l1) → GoesN P orc J (c.wp P) a s l ex a1 s1 l1) ∧
      (∀ (x : Code) (a : ActC) (s : St) (l : Script) (ex : ExC) (a1 : ActC) (s1 : St) (l1 : Script), codeN P ext call d n (.loop x) a s l = some (ex, a1, s1, l1) → GoesN P orc J (LoopWp P x) a s l ex a1 s1 l1) := by
  intro n
  induction n with
  | zero => exact ⟨fun c a s l ex a1 s1 l1 h => by simp [codeN] at h, fun c a s l ex a1 s1 l1 h => by simp [codeN] at h⟩
  | succ n ih =>
    obtain ⟨ih1, ih2⟩ := ih
    -- two pieces, one behind the other
    have two : ∀ {W1 : (Exit → Act → World → Prop) → Act → World → Prop} {W2 : (Exit → Act → World → Prop) → Act → World → Prop} {a : ActC} {s : St} {l : Script} {a2 : ActC} {s2 : St} {l2 : Script} {ex : ExC} {a1 : ActC} {s1 : St} {l1 : Script},
        GoesN P orc J W1 a s l .normal a2 s2 l2 → GoesN P orc J W2 a2 s2 l2 ex a1 s1 l1 → s2.next ≤ s1.next →
        GoesN P orc J (fun Q => W1 (Exit.then (W2 Q) Q)) a s l ex a1 s1 l1 := by
      intro W1 W2 a s l a2 s2 l2 ex a1 s1 l1 h1 h2 hle ρ a' w k N Q hA hR hwf hN hl hfree hj hf hQ
      refine h1 ρ a' w k N _ hA hR hwf (Nat.le_trans hle hN) hl hfree hj hf ?_
      intro a2' w2 ρ2 q1 q2 q3 q4 q5 q6 q7
      refine h2 ρ2 a2' w2 _ N Q q1 q2 q3 hN hl q4 q5 q6 ?_
      intro a3' w3 ρ3 p1 p2 p3 p4 p5 p6 p7
      have e : k + (l.length - l1.length) = k + (l.length - l2.length) + (l2.length - l1.length) := by omega
      exact hQ a3' w3 ρ3 p1 p2 p3 p4 (by rw [e]; exact p5) (by rw [e]; exact p6) (Nat.le_trans p7 q7)
    -- a piece that leaves: the rest is passed over
    have one : ∀ {W1 : (Exit → Act → World → Prop) → Act → World → Prop} {Nx : (Exit → Act → World → Prop) → Act → World → Prop} {a : ActC} {s : St} {l : Script} {ex : ExC} {a1 : ActC} {s1 : St} {l1 : Script},
        GoesN P orc J W1 a s l ex a1 s1 l1 → ex ≠ .normal → GoesN P orc J (fun Q => W1 (Exit.then (Nx Q) Q)) a s l ex a1 s1 l1 := by
      intro W1 Nx a s l ex a1 s1 l1 h1 hne ρ a' w k N Q hA hR hwf hN hl hfree hj hf hQ
      refine h1 ρ a' w k N _ hA hR hwf hN hl hfree hj hf ?_
      intro a2' w2 ρ2 q1 q2 q3 q4 q5 q6 q7
      have := hQ a2' w2 ρ2 q1 q2 q3 q4 q5 q6 q7
      cases ex with
      | normal => exact absurd rfl hne
      | exit id => exact this
      | ret => exact this
    have hloop : ∀ (x : Code) (a : ActC) (s : St) (l : Script) (ex : ExC) (a1 : ActC) (s1 : St) (l1 : Script), codeN P ext call d (n + 1) (.loop x) a s l = some (ex, a1, s1, l1) → GoesN P orc J (LoopWp P x) a s l ex a1 s1 l1 := by
      intro x a s l ex a1 s1 l1 h ρ a' w k N Q hA hR hwf hN hl hfree hj hf hQ
      simp only [codeN] at h
      refine LoopWp.round ?_
      split at h
      · rename_i a2 s2 l2 hx
        exact two (W2 := LoopWp P x) (ih1 _ _ _ _ _ _ _ _ hx) (ih2 _ _ _ _ _ _ _ _ h) (codeN_next _ _ _ _ _ _ _ _ _ h) ρ a' w k N Q hA hR hwf hN hl hfree hj hf hQ
      · rename_i hnn
        exact one (Nx := LoopWp P x) (ih1 _ _ _ _ _ _ _ _ h) (fun e => hnn a1 s1 l1 (e ▸ h)) ρ a' w k N Q hA hR hwf hN hl hfree hj hf hQ
    refine ⟨fun c => ?_, hloop⟩
    cases c with
    | skip =>
      intro a s l ex a1 s1 l1 h ρ a' w k N Q hA hR hwf hN hl hfree hj hf hQ
      simp only [codeN] at h; cases h
      exact wp_skip (hQ a' w ρ hA hR hwf hfree (by simpa using hj) (by simpa using hf) (Nat.le_refl _))
    | ret =>
      intro a s l ex a1 s1 l1 h ρ a' w k N Q hA hR hwf hN hl hfree hj hf hQ
      simp only [codeN] at h; cases h
      exact wp_ret (hQ a' w ρ hA hR hwf hfree (by simpa using hj) (by simpa using hf) (Nat.le_refl _))
    | exit id =>
      intro a s l ex a1 s1 l1 h ρ a' w k N Q hA hR hwf hN hl hfree hj hf hQ
      simp only [codeN] at h; cases h
      exact wp_exit (hQ a' w ρ hA hR hwf hfree (by simpa using hj) (by simpa using hf) (Nat.le_refl _))
    | seq x y =>
      intro a s l ex a1 s1 l1 h ρ a' w k N Q hA hR hwf hN hl hfree hj hf hQ
      simp only [codeN] at h
      refine wp_seq ?_
      split at h
      · rename_i a2 s2 l2 hx
        exact two (W2 := y.wp P) (ih1 _ _ _ _ _ _ _ _ hx) (ih1 _ _ _ _ _ _ _ _ h) (codeN_next _ _ _ _ _ _ _ _ _ h) ρ a' w k N Q hA hR hwf hN hl hfree hj hf hQ
      · rename_i hnn
        exact one (Nx := y.wp P) (ih1 _ _ _ _ _ _ _ _ h) (fun e => hnn a1 s1 l1 (e ▸ h)) ρ a' w k N Q hA hR hwf hN hl hfree hj hf hQ
    | cond c x y =>
      intro a s l ex a1 s1 l1 h ρ a' w k N Q hA hR hwf hN hl hfree hj hf hQ
      simp only [codeN] at h
      split at h
      · cases h
      · rename_i hcst
        have hcst' : constOk c = true := by simpa using hcst
        have hv := eval_rel (P := P) (ρ := ρ) (a := a) (a' := a') (x := c) (fun t _ => hA.at_ t) hcst'
        split at h
        · rename_i he
          rw [he] at hv
          generalize hq : a'.eval c = q at hv
          cases hv
          exact wp_cond_true hq (ih1 _ _ _ _ _ _ _ _ h ρ a' w k N Q hA hR hwf hN hl hfree hj hf hQ)
        · rename_i he
          rw [he] at hv
          generalize hq : a'.eval c = q at hv
          cases hv
          exact wp_cond_false hq (ih1 _ _ _ _ _ _ _ _ h ρ a' w k N Q hA hR hwf hN hl hfree hj hf hQ)
        · cases h
    | block id x =>
      intro a s l ex a1 s1 l1 h ρ a' w k N Q hA hR hwf hN hl hfree hj hf hQ
      simp only [codeN] at h
      refine wp_block ?_
      split at h
      · rename_i id' a2 s2 l2 hx
        have hs : s2 = s1 ∧ a2 = a1 ∧ l2 = l1 := by
          split at h <;> (simp only [Option.some.injEq, Prod.mk.injEq] at h; exact ⟨h.2.2.1, h.2.1, h.2.2.2⟩)
        obtain ⟨rfl, rfl, rfl⟩ := hs
        refine ih1 _ _ _ _ _ _ _ _ hx ρ a' w k N _ hA hR hwf hN hl hfree hj hf ?_
        intro a2' w2 ρ2 q1 q2 q3 q4 q5 q6 q7
        have := hQ a2' w2 ρ2 q1 q2 q3 q4 q5 q6 q7
        show Exit.inBlock id Q (.exit id') a2' w2
        unfold Exit.inBlock
        split at h
        · rename_i he
          simp only [Option.some.injEq, Prod.mk.injEq] at h
          simp only [if_pos he]
          rw [← h.1] at this; exact this
        · rename_i he
          simp only [Option.some.injEq, Prod.mk.injEq] at h
          simp only [if_neg he]
          rw [← h.1] at this; exact this
      · rename_i hne
        refine ih1 _ _ _ _ _ _ _ _ h ρ a' w k N _ hA hR hwf hN hl hfree hj hf ?_
        intro a2' w2 ρ2 q1 q2 q3 q4 q5 q6 q7
        have := hQ a2' w2 ρ2 q1 q2 q3 q4 q5 q6 q7
        cases ex with
        | normal => exact this
        | exit id' => exact absurd h (hne id' a1 s1 l1)
        | ret => exact this
    | loop x =>
      intro a s l ex a1 s1 l1 h ρ a' w k N Q hA hR hwf hN hl hfree hj hf hQ
      exact (hloop x a s l ex a1 s1 l1 h ρ a' w k N Q hA hR hwf hN hl hfree hj hf hQ).loop
    | region id ops drawn =>
      intro a s l ex a1 s1 l1 h ρ a' w k N Q hA hR hwf hN hl hfree hj hf hQ
      cases drawn with
      | false =>
        simp only [codeN] at h
        split at h
        · rename_i a2 s2 l2 hx
          cases h
          refine wp_region ?_
          have := opsN_sound hz hext hcall hJ (ops := ops) (Q := Q) ops.toList 0 (fun k o hk => by rw [Nat.zero_add, ← Array.getElem?_toList]; exact hk) a s l _ _ _ a' ρ w k N hx hA hR hwf hN hl hfree hj hf hQ
          simpa using this
        · cases h
      | true => simp [codeN] at h
    | _ => intro a s l ex a1 s1 l1 h; simp [codeN] at h

end
end Go.Am

namespace Go.Am
variable {P : Program}
noncomputable section

/-- a memory, written out -/
def heapOf (l : List (Nat × Obj)) : Tr Obj := List.rec (motive := fun _ => Tr Obj) .e (fun p _ t => Tr.set p.2 deep t p.1) l

theorem heapOf_sub {s : St} (hwf : WF s) : ∀ (l : List (Nat × Obj)), (∀ p ∈ l, s.get p.1 = some p.2) → ∀ b o, (heapOf l).get b = some o → s.get b = some o := by
  intro l
  induction l with
  | nil => intro _ b o h; cases h
  | cons p l ih =>
    intro hp b o h
    have h0 := hp p List.mem_cons_self
    have e : heapOf (p :: l) = Tr.set p.2 deep (heapOf l) p.1 := rfl
    rw [e] at h
    by_cases hb : p.1 = b
    · subst hb
      have hlt := hwf.lt h0
      rw [Tr.get_set_same _ _ _ _ (lim_deep (Nat.le_trans (Nat.le_of_lt hlt) hwf.le))] at h
      rw [h0]; exact h
    · rw [Tr.get_set_ne _ _ _ _ _ hb] at h
      exact ih (fun q hq => hp q (List.mem_cons_of_mem _ hq)) b o h

theorem zip_get {s : St} : ∀ (ns : List Nat) (os : List Obj), ns.map s.get = os.map some → ∀ p ∈ ns.zip os, s.get p.1 = some p.2
  | [], _, _, p, hp => by simp at hp
  | _ :: _, [], h, _, _ => by simp at h
  | n :: ns, o :: os, h, p, hp => by
    simp only [List.map_cons, List.cons.injEq] at h
    rw [List.zip_cons_cons, List.mem_cons] at hp
    rcases hp with rfl | hp
    · exact h.1
    · exact zip_get ns os h.2 p hp

theorem keep_rel {ρ : Ren} {s : St} {w : World} (hR : R P ρ s w) (hwf : WF s) {ns : List Nat} {os : List Obj} {n : Nat} (hn : s.next = n) (h : ns.map s.get = os.map some) :
    R P ρ ⟨heapOf (ns.zip os), n⟩ w ∧ WF ⟨heapOf (ns.zip os), n⟩ := by
  have hs := heapOf_sub hwf _ (zip_get ns os h)
  refine ⟨RH.sub hR hs, ⟨hn ▸ hwf.le, fun b hb => ?_⟩⟩
  cases hg : (heapOf (ns.zip os)).get b with
  | none => exact hg
  | some o => 
    have h1 := hwf.lt (hs b o hg)
    have h2 : n ≤ b := hb
    omega

/-- the temps of the top function: what is still read, and whatever the others hold -/
def liveV : List (Nat × Value) → (Nat → Value) → Nat → Value
  | [], x, t => x t
  | p :: l, x, t => cond (Nat.beq p.1 t) p.2 (liveV l x t)
def actOf (n : Nat) (live : List (Nat × Value)) (x : Nat → Value) : ActC := ⟨setAll ((List.range n).map (liveV live x)) 0 .e, n⟩

theorem actOf_get {n : Nat} {live : List (Nat × Value)} {x : Nat → Value} {t : Nat} (hn : n ≤ 2 ^ 20) : (actOf n live x).get t = if t < n then liveV live x t else undef := by
  unfold actOf ActC.get
  rw [setAll_get _ _ _ _ (by simpa using hn)]
  simp only [Nat.zero_le, true_and, Nat.zero_add, Nat.sub_zero, List.length_map, List.length_range]
  by_cases h : t < n
  · rw [if_pos h, if_pos h]; simp [h]
  · rw [if_neg h, if_neg h]; rfl

theorem liveV_eq {a : ActC} : ∀ (live : List (Nat × Value)), (∀ p ∈ live, a.get p.1 = p.2) → ∀ t, liveV live a.get t = a.get t
  | [], _, _ => rfl
  | p :: l, h, t => by
    unfold liveV
    cases hb : Nat.beq p.1 t with
    | false => exact liveV_eq l (fun q hq => h q (List.mem_cons_of_mem _ hq)) t
    | true =>
      have e := Nat.eq_of_beq_eq_true hb
      rw [← e]; exact (h p List.mem_cons_self).symm

theorem act_rel {ρ : Ren} {a : ActC} {a' : Act} (h : ActR P ρ a a') {n : Nat} {live : List (Nat × Value)} (hn : a.size = n) (hl : ∀ p ∈ live, a.get p.1 = p.2) : ActR P ρ (actOf n live a.get) a' := by
  have hsm : n ≤ 2 ^ 20 := hn ▸ h.small
  refine ⟨h.size.trans hn, hsm, fun t => ?_, h.defers⟩
  rw [actOf_get hsm]
  by_cases ht : t < n
  · rw [if_pos ht, liveV_eq live hl]; exact h.at_ t
  · rw [if_neg ht]
    have : a'.tmps.getD t undef = undef := by
      have hs : a'.tmps.size = n := h.size.trans hn
      simp [Array.getD_eq_getD_getElem?, Array.getElem?_eq_none (by omega : a'.tmps.size ≤ t)]
    rw [this]; exact vr_undef

/-- what is looked at of a run's end -/
structure Seen where
  ex : ExC
  size : Nat
  live : List Value
  next : Nat
  objs : List (Option Obj)
  left : Script

def seeN (ts ns : List Nat) : Option (ExC × ActC × St × Script) → Option Seen
  | none => none
  | some (ex, a, s, l) => some ⟨ex, a.size, ts.map a.get, s.next, ns.map s.get, l⟩

theorem zip_live {a : ActC} : ∀ (ts : List Nat) (vs : List Value), ts.map a.get = vs → ∀ p ∈ ts.zip vs, a.get p.1 = p.2
  | [], _, _, p, hp => by simp at hp
  | t :: ts, vs, h, p, hp => by
    subst h
    simp only [List.map_cons, List.zip_cons_cons, List.mem_cons] at hp
    rcases hp with rfl | hp
    · rfl
    · exact zip_live ts _ rfl p hp

/-- a piece of the top function, from one written memory to the next -/
theorem piece {ext : FuncId → Option Ext} {call : CallC} {d : SpIds} {orc : Nat → Nat → Nat} {J : Ren → St → World → Nat → Prop}
    (hz : Fine P) (hext : ExtOk P ext) (hcall : CallSound P call) (hJ : JOk P d orc J) (hkeep : ∀ ρ s w k n h, J ρ s w k → (∀ b o, (⟨h, n⟩ : St).get b = some o → s.get b = some o) → J ρ ⟨h, n⟩ w k)
    {fuel : Nat} {c : Code} {a : ActC} {s : St} {l : Script} {ts ns : List Nat} {n : Nat} {vs : List Value} {m : Nat} {os : List Obj} {ex : ExC}
    (hrun : seeN ts ns (codeN P ext call d fuel c a s l) = some ⟨ex, n, vs, m, os.map some, []⟩)
    {ρ : Ren} {a' : Act} {w : World} {k : Nat} {Q : Exit → Act → World → Prop} (hA : ActR P ρ a a') (hR : R P ρ s w) (hwf : WF s) (hm : m ≤ lim) (hfree : Free ρ s.next lim) (hj : J ρ s w k) (hf : Fits orc k l)
    (hQ : ∀ a1' w1 ρ1 x, ActR P ρ1 (actOf n (ts.zip vs) x) a1' → R P ρ1 ⟨heapOf (ns.zip os), m⟩ w1 → WF ⟨heapOf (ns.zip os), m⟩ → Free ρ1 m lim → J ρ1 ⟨heapOf (ns.zip os), m⟩ w1 (k + l.length) → Q (exitOf ex) a1' w1) :
    c.wp P Q a' w := by
  cases hc : codeN P ext call d fuel c a s l with
  | none => rw [hc] at hrun; cases hrun
  | some p =>
    obtain ⟨ex1, a1, s1, l1⟩ := p
    rw [hc] at hrun
    simp only [seeN, Option.some.injEq, Seen.mk.injEq] at hrun
    obtain ⟨rfl, h2, h3, h4, h5, h6⟩ := hrun
    refine (codeN_sound hz hext hcall hJ fuel).1 c a s l ex1 a1 s1 l1 hc ρ a' w k lim Q hA hR hwf (h4 ▸ hm) (Nat.le_refl _) hfree hj hf ?_
    intro a1' w1 ρ1 q1 q2 q3 q4 q5 _ _
    obtain ⟨k1, k2⟩ := keep_rel q2 q3 h4 h5
    subst h6
    exact hQ a1' w1 ρ1 _ (act_rel q1 h2 (zip_live ts vs h3)) k1 k2 (h4 ▸ q4) (hkeep _ _ _ _ _ _ q5 (heapOf_sub q3 _ (zip_get ns os h5)))

end
end Go.Am

namespace Go.Am
variable {P : Program}
noncomputable section

theorem Out.keep {ρ : Ren} {s : St} {w : World} {ρ1 : Ren} {s1 s2 : St} {w1 : World} (h : Out P ρ s w ρ1 s1 w1) (hn : s2.next = s1.next) (hw : WF s2) (hs : ∀ b o, s2.get b = some o → s1.get b = some o) : Out P ρ s w ρ1 s2 w1 where
  le := h.le
  r := RH.sub h.r hs
  new := fun b g h1 h2 => by rw [hn]; exact h.new b g h1 h2
  frame := h.frame
  size := h.size
  next := by rw [hn]; exact h.next
  wf := hw
  old := fun b o h1 h2 h3 => h.old b o h1 (hs b o h2) h3
  os := h.os
  out := h.out
  tape := h.tape

structure SeenC where
  ex : ExC
  size : Nat
  live : List Value
  next : Nat
  objs : List (Option Obj)

def seeC (ts ns : List Nat) : Option (ExC × ActC × St) → Option SeenC
  | none => none
  | some (ex, a, s) => some ⟨ex, a.size, ts.map a.get, s.next, ns.map s.get⟩

/-- a piece of any function's code, from one written memory to the next -/
theorem pieceC {ext : FuncId → Option Ext} {call : CallC} (hz : Fine P) (hext : ExtOk P ext) (hcall : CallSound P call) (hm : P.follows .mixedOrders = true)
    {fuel : Nat} {c : Code} {a : ActC} {s : St} {ts ns : List Nat} {n : Nat} {vs : List Value} {m : Nat} {os : List Obj} {ex : ExC}
    (hrun : seeC ts ns (codeC P ext call fuel c a s) = some ⟨ex, n, vs, m, os.map some⟩)
    {ρ : Ren} {a' : Act} {w : World} {N : Nat} {Q : Exit → Act → World → Prop} (hA : ActR P ρ a a') (hR : R P ρ s w) (hwf : WF s) (hmN : m ≤ N) (hN : N ≤ lim) (hfree : Free ρ s.next N)
    (hQ : ∀ a1' w1 ρ1 x, ActR P ρ1 (actOf n (ts.zip vs) x) a1' → Out P ρ s w ρ1 ⟨heapOf (ns.zip os), m⟩ w1 → Q (exitOf ex) a1' w1) : c.wp P Q a' w := by
  cases hc : codeC P ext call fuel c a s with
  | none => rw [hc] at hrun; cases hrun
  | some p =>
    obtain ⟨ex1, a1, s1⟩ := p
    rw [hc] at hrun
    simp only [seeC, Option.some.injEq, SeenC.mk.injEq] at hrun
    obtain ⟨rfl, h2, h3, h4, h5⟩ := hrun
    refine (codeC_sound hz hext hcall hm fuel).1 c a s ex1 a1 s1 hc ρ a' w N Q hA hR hwf (h4 ▸ hmN) hN hfree ?_
    intro a1' w1 ρ1 hout q1
    obtain ⟨k1, k2⟩ := keep_rel hout.r hout.wf h4 h5
    exact hQ a1' w1 ρ1 _ (act_rel q1 h2 (zip_live ts vs h3)) (hout.keep h4.symm k2 (heapOf_sub hout.wf _ (zip_get ns os h5)))

/-- a call from the empty memory is a call from any memory whose names lie below -/
theorem Out.lift {ρ : Ren} {s : St} {w : World} {ρ1 : Ren} {t : St} {w1 : World} {n0 : Nat} (h : Out P ρ ⟨.e, n0⟩ w ρ1 t w1) (hR : R P ρ s w) (hwf : WF s) (hn : s.next ≤ n0) (hfree : Free ρ s.next t.next) :
    Out P ρ s w ρ1 ⟨s.heap, t.next⟩ w1 where
  le := h.le
  r := by
    refine RH.merge (T := ⟨.e, n0⟩) (T1 := t) hR (fun b o hb => by cases hb) h (fun b h1 h2 => hfree b (Nat.le_trans hn h1) h2) fun b o hb => ?_
    have hb' : s.get b = some o := hb
    have hlt := hwf.lt hb'
    exact .inr ⟨rfl, hb', .inl (Nat.lt_of_lt_of_le hlt hn)⟩
  new := fun b g h1 h2 => by
    obtain ⟨h3, h4, h5⟩ := h.new b g h1 h2
    refine ⟨Nat.le_trans hn h3, h4, ?_⟩
    rcases h5 with h5 | ⟨_, _, _, _, _, h6, _⟩
    · exact .inl h5
    · cases h6
  frame := fun k hk _ => h.frame k hk (by rintro ⟨_, _, _, _, _, h6, _⟩; cases h6)
  size := h.size
  next := Nat.le_trans hn h.next
  wf := ⟨h.wf.le, fun b hb => hwf.none b (Nat.le_trans (Nat.le_trans hn h.next) hb)⟩
  old := fun b o _ h2 h3 => ⟨o, h2, h3⟩
  os := h.os
  out := h.out
  tape := h.tape

end
end Go.Am

namespace Go.Am

theorem addrFree_mono : ∀ (n m : Nat) (v : Value), n ≤ m → addrFree n v = true → addrFree m v = true := by
  intro n
  induction n with
  | zero =>
    intro m v _ h
    cases m with
    | zero => exact h
    | succ m => unfold addrFree at h ⊢; split at h <;> first | rfl | (simp_all; done) | (rename_i hv; cases hv; rfl) | skip
  | succ n ih =>
    intro m v hm h
    cases m with
    | zero => omega
    | succ m =>
      have hm' : n ≤ m := by omega
      cases v with
      | agg cs => 
        simp only [addrFree, List.all_eq_true] at h ⊢
        exact fun x hx => ih m x hm' (h x hx)
      | tuple cs =>
        simp only [addrFree, List.all_eq_true] at h ⊢
        exact fun x hx => ih m x hm' (h x hx)
      | iface t v => simp only [addrFree] at h ⊢; exact ih m v hm' h
      | pointer a => cases a <;> simp_all [addrFree]
      | slice a l c => cases a <;> simp_all [addrFree]
      | map a => cases a <;> simp_all [addrFree]
      | chan a => cases a <;> simp_all [addrFree]
      | _ => simp_all [addrFree]

/-- the cells of a zero value hold no address -/
def cellsFree (z : Value) : Prop := ∀ v ∈ z.cells.toList, addrFree 50 v = true

theorem cellsFree_all {z : Value} (h : cellsFree z) : addrFree 100 z = true := by
  unfold cellsFree Value.cells at h
  split at h
  · simp only [addrFree, List.all_eq_true]
    exact fun x hx => addrFree_mono 50 99 x (by omega) (h x hx)
  · exact addrFree_mono 50 100 _ (by omega) (h _ (by simp))


theorem forIn_inv {α β : Type} (I : β → Prop) (f : α → β → Option (ForInStep β))
    (hs : ∀ a b r, I b → f a b = some r → match r with | .yield b' => I b' | .done b' => I b') : ∀ (l : List α) (b b' : β), I b → forIn l b f = some b' → I b' := by
  intro l
  induction l with
  | nil => intro b b' hb h; simp at h; cases h; exact hb
  | cons a l ih =>
    intro b b' hb h
    rw [List.forIn_cons] at h
    cases hf : f a b with
    | none => rw [hf] at h; cases h
    | some r =>
      rw [hf] at h
      have := hs a b r hb hf
      cases r with
      | done b1 => simp at h; cases h; exact this
      | yield b1 => exact ih b1 b' this h


def zsFree (o : Option (Array Value)) : Prop := ∀ zs, o = some zs → ∀ v ∈ zs.toList, addrFree 50 v = true

theorem zsFree_step {n m : Nat} {o : Option (Array Value)} {i : TypeInfo} (ho : zsFree o) (hi : ∀ z, i.zero = some z → cellsFree z) :
    zsFree (if n > m then none else o.bind fun a => i.zero.bind fun b => some (a ++ b.cells)) := by
  intro zs h v hv
  split at h
  · cases h
  · simp only [Option.bind_eq_some_iff, Option.some.injEq] at h
    obtain ⟨a, ha, b, hb, rfl⟩ := h
    simp only [Array.toList_append, List.mem_append] at hv
    rcases hv with hv | hv
    · exact ho a ha v hv
    · exact hi b hb v hv

set_option maxHeartbeats 1000000 in
theorem reckonStruct_free {info : TypeId → Option TypeInfo} (hi : ∀ t i z, info t = some i → i.zero = some z → cellsFree z) {fs : Array Field} {i : TypeInfo} {z : Value}
    (h : Made.reckonStruct info fs = some i) (hz : i.zero = some z) : cellsFree z := by
  unfold Made.reckonStruct at h
  simp only [bind, Option.bind_eq_some_iff, pure] at h
  obtain ⟨r, hr, h⟩ := h
  have hI : zsFree r.2.2.2.2.2.2.2.1 := by
    rw [← Array.forIn_toList] at hr
    refine forIn_inv (fun s => zsFree s.2.2.2.2.2.2.2.1) _ ?_ fs.toList _ r ?_ hr
    · intro f s r hs hf
      simp only [Option.bind_eq_some_iff] at hf
      obtain ⟨i, hti, hf⟩ := hf
      have hst := fun n => zsFree_step (n := n) (m := Made.mostCells) hs (fun z => hi _ i z hti)
      split at hf
      · exact absurd hf (by simp)
      · split at hf
        · exact absurd hf (by simp)
        · split at hf
          · simp only [Option.bind_eq_some_iff] at hf
            obtain ⟨_, _, hf⟩ := hf
            split at hf <;> (cases hf; exact hst _)
          · simp only [Option.bind_eq_some_iff] at hf
            obtain ⟨_, _, hf⟩ := hf
            split at hf <;> (cases hf; exact hst _)
    · intro zs h v hv; cases h; simp at hv
  have hzz : ∀ zs, r.2.2.2.2.2.2.2.1 = some zs → cellsFree (.agg zs) := fun zs h v hv => hI zs h v hv
  split at h <;> (simp only [Option.some.injEq] at h; subst h; simp only [Option.map_eq_some_iff] at hz; obtain ⟨zs, h1, rfl⟩ := hz; exact hzz zs h1)

theorem reckon_free {info : TypeId → Option TypeInfo} (hi : ∀ t i z, info t = some i → i.zero = some z → cellsFree z) {d : TypeDesc} {i : TypeInfo} {z : Value}
    (h : Made.reckon info d = some i) (hz : i.zero = some z) : cellsFree z := by
  have hw : ∀ (v : Value), addrFree 50 v = true → v.cells = #[v] → cellsFree v := fun v h1 h2 x hx => by rw [h2] at hx; simp at hx; rw [hx]; exact h1
  unfold Made.reckon at h
  split at h
  case h_7 => exact reckonStruct_free hi h hz
  all_goals repeat' first
    | (cases h; done)
    | (simp only [bind, Option.bind_eq_some_iff, pure, Option.some.injEq] at h)
    | (obtain ⟨_, _, h⟩ := h)
    | (split at h)
    | subst h
  all_goals first
    | (simp only [Made.word, Option.some.injEq] at hz; subst hz; exact hw _ rfl rfl)
    | skip
  all_goals
    rename_i n e i0 hi0 _ _
    simp only at hz
    split at hz
    · cases hz
    · split at hz
      · cases hz; intro v hv; simp [Value.cells] at hv
      · simp only [Option.map_eq_some_iff] at hz
        obtain ⟨z0, h1, rfl⟩ := hz
        intro v hv
        simp only [Value.cells, Array.mem_toList_iff, Array.mem_flatten, Array.mem_replicate] at hv
        obtain ⟨a, ⟨_, rfl⟩, hv⟩ := hv
        exact hi _ _ z0 hi0 h1 v (Array.mem_toList_iff.2 hv)

theorem infoAt_free {T : Tables} (ht : ∀ (t : Nat) (i : TypeInfo) z, T.types[t]? = some i → i.zero = some z → cellsFree z) : ∀ f t i z, Made.infoAt T f t = some i → i.zero = some z → cellsFree z := by
  intro f
  induction f with
  | zero => intro t i z h; simp [Made.infoAt] at h
  | succ f ih =>
    intro t i z h hz
    unfold Made.infoAt at h
    split at h
    · exact ht t i z h hz
    · simp only [Option.bind_eq_some_iff] at h
      obtain ⟨d, _, h⟩ := h
      exact reckon_free ih h hz

/-- made types' zeros hold no address if the table's don't -/
theorem zerosFree_of {P : Program} (ht : ∀ (t : Nat) (i : TypeInfo) z, P.types[t]? = some i → i.zero = some z → cellsFree z) : zerosFree P := by
  intro t i z h hz
  unfold Tables.info? at h
  refine cellsFree_all ?_
  split at h
  · exact ht t i z h hz
  · exact infoAt_free ht _ t i z h hz

end Go.Am

namespace Go.Am
variable {P : Program}
noncomputable section

structure SeenH where
  ex : ExC
  size : Nat
  live : List Value
  heap : Tr Obj
  next : Nat
  left : Script
def seeH (ts : List Nat) : Option (ExC × ActC × St × Script) → Option SeenH
  | none => none
  | some (ex, a, s, l) => some ⟨ex, a.size, ts.map a.get, s.heap, s.next, l⟩

/-- a piece that leaves a memory as it is, whatever it is -/
theorem pieceH {ext : FuncId → Option Ext} {call : CallC} {d : SpIds} {orc : Nat → Nat → Nat} {J : Ren → St → World → Nat → Prop}
    (hz : Fine P) (hext : ExtOk P ext) (hcall : CallSound P call) (hJ : JOk P d orc J)
    {fuel : Nat} {c : Code} {a : ActC} {s : St} {l : Script} {ts : List Nat} {n : Nat} {vs : List Value} {ex : ExC}
    (hrun : seeH ts (codeN P ext call d fuel c a s l) = some ⟨ex, n, vs, s.heap, s.next, []⟩)
    {ρ : Ren} {a' : Act} {w : World} {k : Nat} {Q : Exit → Act → World → Prop} (hA : ActR P ρ a a') (hR : R P ρ s w) (hwf : WF s) (hm : s.next ≤ lim) (hfree : Free ρ s.next lim) (hj : J ρ s w k) (hf : Fits orc k l)
    (hQ : ∀ a1' w1 ρ1 x, ActR P ρ1 (actOf n (ts.zip vs) x) a1' → R P ρ1 s w1 → Free ρ1 s.next lim → J ρ1 s w1 (k + l.length) → Q (exitOf ex) a1' w1) :
    c.wp P Q a' w := by
  cases hc : codeN P ext call d fuel c a s l with
  | none => rw [hc] at hrun; cases hrun
  | some p =>
    obtain ⟨ex1, a1, ⟨h1, m1⟩, l1⟩ := p
    rw [hc] at hrun
    simp only [seeH, Option.some.injEq, SeenH.mk.injEq] at hrun
    obtain ⟨rfl, h2, h3, h4, h5, h6⟩ := hrun
    subst h4 h5 h6
    refine (codeN_sound hz hext hcall hJ fuel).1 c a s l ex1 a1 s [] hc ρ a' w k lim Q hA hR hwf hm (Nat.le_refl _) hfree hj hf ?_
    intro a1' w1 ρ1 q1 q2 q3 q4 q5 _ _
    exact hQ a1' w1 ρ1 _ (act_rel q1 h2 (zip_live ts vs h3)) q2 q4 q5

def memOf (ns : List Nat) (os : List Obj) (n : Nat) : St := ⟨heapOf (ns.zip os), n⟩

/-- what is known at a written memory -/
def AtM (P : Program) (J : Ren → St → World → Nat → Prop) (size : Nat) (live : List (Nat × Value)) (s : St) (k : Nat) (a' : Act) (w : World) : Prop :=
  ∃ ρ x, ActR P ρ (actOf size live x) a' ∧ R P ρ s w ∧ WF s ∧ s.next ≤ lim ∧ Free ρ s.next lim ∧ J ρ s w k

theorem AtM.piece {ext : FuncId → Option Ext} {call : CallC} {d : SpIds} {orc : Nat → Nat → Nat} {J : Ren → St → World → Nat → Prop}
    (hz : Fine P) (hext : ExtOk P ext) (hcall : CallSound P call) (hJ : JOk P d orc J) (hkeep : ∀ ρ s w k n h, J ρ s w k → (∀ b o, (⟨h, n⟩ : St).get b = some o → s.get b = some o) → J ρ ⟨h, n⟩ w k)
    {fuel : Nat} {c : Code} {size : Nat} {live : List (Nat × Value)} {s : St} {l : Script} {ts ns : List Nat} {n : Nat} {vs : List Value} {m : Nat} {os : List Obj} {ex : ExC}
    (hrun : ∀ x, seeN ts ns (codeN P ext call d fuel c (actOf size live x) s l) = some ⟨ex, n, vs, m, os.map some, []⟩) (hm : m ≤ lim)
    {a' : Act} {w : World} {k : Nat} {Q : Exit → Act → World → Prop} (h : AtM P J size live s k a' w) (hf : Fits orc k l)
    (hQ : ∀ a1' w1, AtM P J n (ts.zip vs) (memOf ns os m) (k + l.length) a1' w1 → Q (exitOf ex) a1' w1) : c.wp P Q a' w := by
  obtain ⟨ρ, x, hA, hR, hwf, _, hfree, hj⟩ := h
  refine Go.Am.piece hz hext hcall hJ hkeep (hrun x) hA hR hwf hm hfree hj hf ?_
  intro a1' w1 ρ1 x1 q1 q2 q3 q4 q5
  exact hQ a1' w1 ⟨ρ1, x1, q1, q2, q3, hm, q4, q5⟩

theorem AtM.pieceH {ext : FuncId → Option Ext} {call : CallC} {d : SpIds} {orc : Nat → Nat → Nat} {J : Ren → St → World → Nat → Prop}
    (hz : Fine P) (hext : ExtOk P ext) (hcall : CallSound P call) (hJ : JOk P d orc J)
    {fuel : Nat} {c : Code} {size : Nat} {live : List (Nat × Value)} {s : St} {l : Script} {ts : List Nat} {n : Nat} {vs : List Value} {ex : ExC}
    (hrun : ∀ x, seeH ts (codeN P ext call d fuel c (actOf size live x) s l) = some ⟨ex, n, vs, s.heap, s.next, []⟩)
    {a' : Act} {w : World} {k : Nat} {Q : Exit → Act → World → Prop} (h : AtM P J size live s k a' w) (hf : Fits orc k l)
    (hQ : ∀ a1' w1, AtM P J n (ts.zip vs) s (k + l.length) a1' w1 → Q (exitOf ex) a1' w1) : c.wp P Q a' w := by
  obtain ⟨ρ, x, hA, hR, hwf, hm, hfree, hj⟩ := h
  refine Go.Am.pieceH hz hext hcall hJ (hrun x) hA hR hwf hm hfree hj hf ?_
  intro a1' w1 ρ1 x1 q1 q2 q4 q5
  exact hQ a1' w1 ⟨ρ1, x1, q1, q2, hwf, hm, q4, q5⟩

theorem fits_one {orc : Nat → Nat → Nat} {k n v : Nat} (hk : k < 1000) (h : orc k n = v) : Fits orc k [(n, v)] := by
  refine ⟨by simp; omega, fun i n' v' hi => ?_⟩
  cases i with
  | zero => simp at hi; obtain ⟨rfl, rfl⟩ := hi; exact h
  | succ i => simp at hi
theorem fits_nil {orc : Nat → Nat → Nat} {k : Nat} (hk : k < 1000) : Fits orc k [] := ⟨by simp; omega, fun i n v hi => by simp at hi⟩

/-- rounds of a loop: a head that draws below 6 and goes on while j < 1 + c, and a body that draws below 2 -/
theorem rounds {ext : FuncId → Option Ext} {call : CallC} {d : SpIds} {orc : Nat → Nat → Nat} {J : Ren → St → World → Nat → Prop}
    (hz : Fine P) (hext : ExtOk P ext) (hcall : CallSound P call) (hJ : JOk P d orc J) (hkeep : ∀ ρ s w k n h, J ρ s w k → (∀ b o, (⟨h, n⟩ : St).get b = some o → s.get b = some o) → J ρ ⟨h, n⟩ w k)
    (ho6 : ∀ k, orc k 6 < 6) (ho2 : ∀ k, orc k 2 < 2)
    {fuel : Nat} {head body : Code} {exit : Nat} {size : Nat} {live : Nat → List (Nat × Value)} {ts : List Nat} {vs : Nat → List Value} (hlive : ∀ j, live j = ts.zip (vs j))
    (ns : Nat → List Nat) (os : Nat → Int → (Nat → Bool) → List Obj) (next : Nat → Nat) (hnext : ∀ j, j ≤ 6 → next j ≤ lim)
    (hhd : ∀ j, j ≤ 6 → ∀ c, c < 6 → ∀ h x, seeH ts (codeN P ext call d fuel head (actOf size (live j) x) ⟨h, next j⟩ [(6, c)]) = some ⟨if j < 1 + c then .normal else .exit exit, size, vs j, h, next j, []⟩)
    (hrd : ∀ j, j < 6 → ∀ f, f < 2 → ∀ r b, ∃ r' b', ∀ x, seeN ts (ns (j + 1)) (codeN P ext call d fuel body (actOf size (live j) x) (memOf (ns j) (os j r b) (next j)) [(2, f)]) =
      some ⟨.normal, size, vs (j + 1), next (j + 1), (os (j + 1) r' b').map some, []⟩)
    {Q : Exit → Act → World → Prop}
    (hQ : ∀ j, 1 ≤ j → j ≤ 6 → ∀ r b k a' w, k ≤ 100 → AtM P J size (live j) (memOf (ns j) (os j r b) (next j)) k a' w → Q (.exit exit) a' w) :
    ∀ n j, n + j = 6 → ∀ r b k a' w, k ≤ 2 + 2 * j → AtM P J size (live j) (memOf (ns j) (os j r b) (next j)) k a' w → LoopWp P (.seq head body) Q a' w := by
  intro n
  induction n with
  | zero =>
    intro j hj r b k a' w hk hat
    have : j = 6 := by omega
    subst this
    refine LoopWp.round (wp_seq ?_)
    refine AtM.pieceH hz hext hcall hJ (hhd 6 (Nat.le_refl _) (orc k 6) (ho6 k) _) hat (fits_one (by omega) rfl) ?_
    intro a1' w1 hat1
    rw [if_neg (by have := ho6 k; omega)]
    refine hQ 6 (by omega) (Nat.le_refl _) r b _ a1' w1 ?_ ((hlive 6) ▸ hat1)
    simp; omega
  | succ n ih =>
    intro j hj r b k a' w hk hat
    refine LoopWp.round (wp_seq ?_)
    refine AtM.pieceH hz hext hcall hJ (hhd j (by omega) (orc k 6) (ho6 k) _) hat (fits_one (by omega) rfl) ?_
    intro a1' w1 hat1
    rw [← hlive j] at hat1
    by_cases hgo : j < 1 + orc k 6
    · rw [if_pos hgo]
      show (body.wp P (Exit.then (LoopWp P (.seq head body) Q) Q) a1' w1)
      simp only [List.length_singleton] at hat1
      obtain ⟨r', b', hb⟩ := hrd j (by omega) (orc (k + 1) 2) (ho2 _) r b
      refine AtM.piece hz hext hcall hJ hkeep hb (hnext _ (by omega)) hat1 (fits_one (by omega) rfl) ?_
      intro a2' w2 hat2
      rw [← hlive (j + 1)] at hat2
      exact ih (j + 1) (by omega) r' b' _ a2' w2 (by simp; omega) hat2
    · rw [if_neg hgo]
      exact hQ j (by omega) (by omega) r b _ a1' w1 (by simp; omega) hat1

end
end Go.Am

namespace Go.Am
variable {P : Program}
noncomputable section

def seqOf : Code → List Code → Code
  | c, [] => c
  | c, d :: ds => .seq c (seqOf d ds)
def seqThen : Code → List Code → Code → Code
  | c, [], r => .seq c r
  | c, d :: ds, r => .seq c (seqThen d ds r)

theorem codeN_seqs {ext : FuncId → Option Ext} {call : CallC} {d : SpIds} {orc : Nat → Nat → Nat} {J : Ren → St → World → Nat → Prop}
    (hz : Fine P) (hext : ExtOk P ext) (hcall : CallSound P call) (hJ : JOk P d orc J) {rest : Code} {Q : Exit → Act → World → Prop} :
    ∀ (cs : List Code) (c : Code) (fuel : Nat) (a : ActC) (s : St) (l : Script) (a1 : ActC) (s1 : St) (l1 : Script), codeN P ext call d fuel (seqOf c cs) a s l = some (.normal, a1, s1, l1) →
    ∀ (ρ : Ren) (a' : Act) (w : World) (k N : Nat), ActR P ρ a a' → R P ρ s w → WF s → s1.next ≤ N → N ≤ lim → Free ρ s.next N → J ρ s w k → Fits orc k l →
    (∀ a1' w1 ρ1, ActR P ρ1 a1 a1' → R P ρ1 s1 w1 → WF s1 → Free ρ1 s1.next N → J ρ1 s1 w1 (k + (l.length - l1.length)) → Fits orc (k + (l.length - l1.length)) l1 → l1.length ≤ l.length → rest.wp P Q a1' w1) →
    (seqThen c cs rest).wp P Q a' w := by
  intro cs
  induction cs with
  | nil =>
    intro c fuel a s l a1 s1 l1 h ρ a' w k N hA hR hwf hN hl hfree hj hf hQ
    refine wp_seq ?_
    exact (codeN_sound hz hext hcall hJ fuel).1 c a s l .normal a1 s1 l1 h ρ a' w k N _ hA hR hwf hN hl hfree hj hf hQ
  | cons e es ih =>
    intro c fuel a s l a1 s1 l1 h ρ a' w k N hA hR hwf hN hl hfree hj hf hQ
    cases fuel with
    | zero => simp [codeN] at h
    | succ fuel =>
      simp only [seqOf, codeN] at h
      split at h
      · rename_i a2 s2 l2 h2
        refine wp_seq ?_
        refine (codeN_sound hz hext hcall hJ fuel).1 c a s l .normal a2 s2 l2 h2 ρ a' w k N _ hA hR hwf (Nat.le_trans (codeN_next _ _ _ _ _ _ _ _ _ h) hN) hl hfree hj hf ?_
        intro a2' w2 ρ2 q1 q2 q3 q4 q5 q6 q7
        refine ih e fuel a2 s2 l2 a1 s1 l1 h ρ2 a2' w2 _ N q1 q2 q3 hN hl q4 q5 q6 ?_
        intro a1' w1 ρ1 p1 p2 p3 p4 p5 p6 p7
        have e : k + (l.length - l2.length) + (l2.length - l1.length) = k + (l.length - l1.length) := by omega
        rw [e] at p5 p6
        exact hQ a1' w1 ρ1 p1 p2 p3 p4 p5 p6 (by omega)
      · rename_i r hne
        exact (hne _ _ _ h).elim

theorem AtM.seqs {ext : FuncId → Option Ext} {call : CallC} {d : SpIds} {orc : Nat → Nat → Nat} {J : Ren → St → World → Nat → Prop}
    (hz : Fine P) (hext : ExtOk P ext) (hcall : CallSound P call) (hJ : JOk P d orc J) (hkeep : ∀ ρ s w k n h, J ρ s w k → (∀ b o, (⟨h, n⟩ : St).get b = some o → s.get b = some o) → J ρ ⟨h, n⟩ w k)
    {fuel : Nat} {c : Code} {cs : List Code} {size : Nat} {live : List (Nat × Value)} {s : St} {l : Script} {ts ns : List Nat} {n : Nat} {vs : List Value} {m : Nat} {os : List Obj}
    (hrun : ∀ x, seeN ts ns (codeN P ext call d fuel (seqOf c cs) (actOf size live x) s l) = some ⟨.normal, n, vs, m, os.map some, []⟩) (hm : m ≤ lim)
    {a' : Act} {w : World} {k : Nat} {rest : Code} {Q : Exit → Act → World → Prop} (h : AtM P J size live s k a' w) (hf : Fits orc k l)
    (hQ : ∀ a1' w1, AtM P J n (ts.zip vs) (memOf ns os m) (k + l.length) a1' w1 → rest.wp P Q a1' w1) : (seqThen c cs rest).wp P Q a' w := by
  obtain ⟨ρ, x, hA, hR, hwf, _, hfree, hj⟩ := h
  have hrun := hrun x
  cases hc : codeN P ext call d fuel (seqOf c cs) (actOf size live x) s l with
  | none => rw [hc] at hrun; cases hrun
  | some p =>
    obtain ⟨ex1, a1, s1, l1⟩ := p
    rw [hc] at hrun
    simp only [seeN, Option.some.injEq, Seen.mk.injEq] at hrun
    obtain ⟨rfl, h2, h3, h4, h5, h6⟩ := hrun
    refine codeN_seqs hz hext hcall hJ cs c fuel _ s l a1 s1 l1 hc ρ a' w k lim hA hR hwf (h4 ▸ hm) (Nat.le_refl _) hfree hj hf ?_
    intro a1' w1 ρ1 q1 q2 q3 q4 q5 _ _
    obtain ⟨k1, k2⟩ := keep_rel q2 q3 h4 h5
    subst h6
    exact hQ a1' w1 ⟨ρ1, _, act_rel q1 h2 (zip_live ts vs h3), k1, k2, hm, h4 ▸ q4, hkeep _ _ _ _ _ _ q5 (heapOf_sub q3 _ (zip_get ns os h5))⟩

/-! ## The same for any function's code -/
theorem codeC_seqs {ext : FuncId → Option Ext} {call : CallC} (hz : Fine P) (hext : ExtOk P ext) (hcall : CallSound P call) (hm : P.follows .mixedOrders = true) {rest : Code} {Q : Exit → Act → World → Prop} :
    ∀ (cs : List Code) (c : Code) (fuel : Nat) (a : ActC) (s : St) (a1 : ActC) (s1 : St), codeC P ext call fuel (seqOf c cs) a s = some (.normal, a1, s1) →
    ∀ (ρ : Ren) (a' : Act) (w : World) (N : Nat), ActR P ρ a a' → R P ρ s w → WF s → s1.next ≤ N → N ≤ lim → Free ρ s.next N →
    (∀ a1' w1 ρ1, Out P ρ s w ρ1 s1 w1 → ActR P ρ1 a1 a1' → rest.wp P Q a1' w1) →
    (seqThen c cs rest).wp P Q a' w := by
  intro cs
  induction cs with
  | nil =>
    intro c fuel a s a1 s1 h ρ a' w N hA hR hwf hN hl hfree hQ
    refine wp_seq ?_
    exact (codeC_sound hz hext hcall hm fuel).1 c a s .normal a1 s1 h ρ a' w N _ hA hR hwf hN hl hfree hQ
  | cons e es ih =>
    intro c fuel a s a1 s1 h ρ a' w N hA hR hwf hN hl hfree hQ
    cases fuel with
    | zero => simp [codeC_zero] at h
    | succ fuel =>
      simp only [seqOf, codeC_succ, codeSel, seqF] at h
      split at h
      · rename_i a2 s2 h2
        have hn2 : s2.next ≤ s1.next := codeC_next _ _ _ _ _ _ _ h
        refine wp_seq ?_
        refine (codeC_sound hz hext hcall hm fuel).1 c a s .normal a2 s2 h2 ρ a' w N _ hA hR hwf (Nat.le_trans hn2 hN) hl hfree ?_
        intro a2' w2 ρ2 q1 q2
        refine ih e fuel a2 s2 a1 s1 h ρ2 a2' w2 N q2 q1.r q1.wf hN hl (q1.free hfree) ?_
        intro a1' w1 ρ1 p1 p2
        exact hQ a1' w1 ρ1 (q1.trans p1 fun b h1 h2 => hfree b h1 (Nat.lt_of_lt_of_le h2 (Nat.le_trans hn2 hN))) p2
      · rename_i r hne
        exact (hne _ _ h).elim

theorem pieceCs {ext : FuncId → Option Ext} {call : CallC} (hz : Fine P) (hext : ExtOk P ext) (hcall : CallSound P call) (hmx : P.follows .mixedOrders = true)
    {fuel : Nat} {c : Code} {cs : List Code} {a : ActC} {s : St} {ts ns : List Nat} {n : Nat} {vs : List Value} {m : Nat} {os : List Obj}
    (hrun : seeC ts ns (codeC P ext call fuel (seqOf c cs) a s) = some ⟨.normal, n, vs, m, os.map some⟩)
    {ρ : Ren} {a' : Act} {w : World} {N : Nat} {rest : Code} {Q : Exit → Act → World → Prop} (hA : ActR P ρ a a') (hR : R P ρ s w) (hwf : WF s) (hmN : m ≤ N) (hN : N ≤ lim) (hfree : Free ρ s.next N)
    (hQ : ∀ a1' w1 ρ1 x, ActR P ρ1 (actOf n (ts.zip vs) x) a1' → Out P ρ s w ρ1 ⟨heapOf (ns.zip os), m⟩ w1 → rest.wp P Q a1' w1) : (seqThen c cs rest).wp P Q a' w := by
  cases hc : codeC P ext call fuel (seqOf c cs) a s with
  | none => rw [hc] at hrun; cases hrun
  | some p =>
    obtain ⟨ex1, a1, s1⟩ := p
    rw [hc] at hrun
    simp only [seeC, Option.some.injEq, SeenC.mk.injEq] at hrun
    obtain ⟨rfl, h2, h3, h4, h5⟩ := hrun
    refine codeC_seqs hz hext hcall hmx cs c fuel a s a1 s1 hc ρ a' w N hA hR hwf (h4 ▸ hmN) hN hfree ?_
    intro a1' w1 ρ1 hout q1
    obtain ⟨k1, k2⟩ := keep_rel hout.r hout.wf h4 h5
    exact hQ a1' w1 ρ1 _ (act_rel q1 h2 (zip_live ts vs h3)) (hout.keep h4.symm k2 (heapOf_sub hout.wf _ (zip_get ns os h5)))

end
end Go.Am

namespace Go.Am
open Go.RowKit
variable {P : Program}

/-- a world in which nothing that was there has changed -/
theorem Out.of_below {ρ : Ren} {s : St} {w w1 : World} (hb : Below w.heap.size w w1) (hR : R P ρ s w) (hwf : WF s) : Out P ρ s w ρ s w1 where
  le := .refl ρ
  r := ⟨fun b g h => Nat.lt_of_lt_of_le (hR.lt b g h) hb.size, hR.inj, fun b g o h1 h2 => by rw [hb.block _ (hR.lt b g h1)]; exact hR.obj b g o h1 h2⟩
  new := fun b g h1 h2 => by rw [h1] at h2; cases h2
  frame := fun k hk _ => hb.block k hk
  size := hb.size
  next := Nat.le_refl _
  wf := hwf
  old := fun b o _ h1 h2 => ⟨o, h1, h2⟩
  os := hb.os
  out := hb.output
  tape := hb.tape

/-- .. and one of the new blocks is known under a new name -/
theorem Out.of_below_row {ρ : Ren} {s : St} {w w1 : World} (hb : Below w.heap.size w w1) (hR : R P ρ s w) (hwf : WF s) (hl : s.next + 1 ≤ lim) (hfree : ρ s.next = none) {o o' : Obj} {g : G}
    (hg : w.heap.size ≤ g.blk) (hat : w1.heap[g.blk]? = some o') (ho : OR P ρ g o (some o')) :
    Out P ρ s w (fun b => if b = s.next then some g else ρ b) (s.push o) w1 := by
  have hle : Le ρ (fun b => if b = s.next then some g else ρ b) := fun b g' h => by
    show (if b = s.next then some g else ρ b) = some g'
    rw [if_neg (fun hb => by subst hb; rw [hfree] at h; cases h)]; exact h
  refine ⟨hle, ⟨?_, ?_, ?_⟩, ?_, fun k hk _ => hb.block k hk, hb.size, Nat.le_succ _, hwf.push hl _, ?_, hb.os, hb.output, hb.tape⟩
  · intro b g' h
    replace h : (if b = s.next then some g else ρ b) = some g' := h
    split at h
    · cases h; exact (Array.getElem?_eq_some_iff.1 hat).1
    · exact Nat.lt_of_lt_of_le (hR.lt b g' h) hb.size
  · intro x y gx gy ox oy hx hy hox hoy dx dy hk
    replace hx : (if x = s.next then some g else ρ x) = some gx := hx
    replace hy : (if y = s.next then some g else ρ y) = some gy := hy
    split at hx <;> split at hy
    · rename_i h1 h2; omega
    · rename_i h1 h2; cases hx; have := hR.lt y gy hy; omega
    · rename_i h1 h2; cases hy; have := hR.lt x gx hx; omega
    · rename_i h1 h2
      rw [St.get_push_ne o (fun h => h1 h.symm)] at hox
      rw [St.get_push_ne o (fun h => h2 h.symm)] at hoy
      exact hR.inj x y gx gy ox oy hx hy hox hoy dx dy hk
  · intro x gx ox hx hox
    replace hx : (if x = s.next then some g else ρ x) = some gx := hx
    split at hx
    · rename_i h1; cases hx; subst h1
      rw [St.get_push_same hwf.le] at hox; cases hox
      rw [hat]; exact ho.mono hle
    · rename_i h1
      rw [St.get_push_ne o (fun h => h1 h.symm)] at hox
      rw [hb.block _ (hR.lt x gx hx)]
      exact (hR.obj x gx ox hx hox).mono hle
  · intro b g' h1 h2
    replace h1 : (if b = s.next then some g else ρ b) = some g' := h1
    split at h1
    · rename_i h3; cases h1; subst h3
      exact ⟨Nat.le_refl _, Nat.lt_succ_self _, .inl hg⟩
    · rw [h1] at h2; cases h2
  · intro b o1 hb1 h1 h2
    rw [St.get_push_ne o (by omega)] at h1
    exact ⟨o1, h1, h2⟩
end Go.Am
