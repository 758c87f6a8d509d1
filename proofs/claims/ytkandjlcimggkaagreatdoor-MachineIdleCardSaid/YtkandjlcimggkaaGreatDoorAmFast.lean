import Derived.Test.YtkandjlcimggkaaGreatDoorAmRel
namespace Go.Am
noncomputable section

/-! The same operations, so that a kernel runs them well: each arm of the great choice is closed. -/
def wrapF (k : IntKind) (n : Int) : Int :=
  match k with
  | .i64 => if decide (-9223372036854775808 ≤ n) && decide (n < 9223372036854775808) then n else k.wrap n
  | _ => k.wrap n

theorem wrapF_eq (k : IntKind) (n : Int) : wrapF k n = k.wrap n := by
  unfold wrapF
  split
  · split
    · rename_i h
      simp only [Bool.and_eq_true, decide_eq_true_eq] at h
      have e2 : ((2 : Int) ^ IntKind.i64.bits) = 18446744073709551616 := by decide
      have e1 : ((2 : Int) ^ (IntKind.i64.bits - 1)) = 9223372036854775808 := by decide
      have es : IntKind.i64.signed = true := rfl
      unfold IntKind.wrap
      simp only [e1, e2, es, Bool.true_and, decide_eq_true_eq]
      split <;> omega
    · rfl
  · rfl

def isI64 : IntKind → Bool
  | .i64 => true
  | _ => false
/-- small and not negative: most of what a program counts -/
def addF (k : IntKind) (a b : Int) : Int :=
  match a with
  | .ofNat x => match b with
    | .ofNat y => cond (isI64 k && Nat.ble (Nat.add x y) 9223372036854775807) (.ofNat (Nat.add x y)) (k.wrap (.ofNat x + .ofNat y))
    | b => k.wrap (.ofNat x + b)
  | a => k.wrap (a + b)
def subF (k : IntKind) (a b : Int) : Int :=
  match a with
  | .ofNat x => match b with
    | .ofNat y => cond (isI64 k && Nat.ble y x && Nat.ble x 9223372036854775807) (.ofNat (Nat.sub x y)) (k.wrap (.ofNat x - .ofNat y))
    | b => k.wrap (.ofNat x - b)
  | a => k.wrap (a - b)
def eqF (a b : Int) : Bool :=
  match a with
  | .ofNat x => match b with
    | .ofNat y => Nat.beq x y
    | .negSucc _ => false
  | .negSucc x => match b with
    | .ofNat _ => false
    | .negSucc y => Nat.beq x y
def leF (a b : Int) : Bool :=
  match a with
  | .ofNat x => match b with
    | .ofNat y => Nat.ble x y
    | .negSucc _ => false
  | .negSucc x => match b with
    | .ofNat _ => true
    | .negSucc y => Nat.ble y x

theorem eqF_eq (a b : Int) : eqF a b = (a == b) := by
  have h : eqF a b = true ↔ a = b := by
    cases a <;> cases b <;> simp [eqF]
    exact Int.ofNat_inj.symm
  cases he : (a == b) with
  | true => exact h.2 (by simpa using he)
  | false =>
    cases h2 : eqF a b with
    | false => rfl
    | true => have := h.1 h2; simp [this] at he
theorem leF_iff (a b : Int) : leF a b = true ↔ a ≤ b := by
  cases a with
  | ofNat x => cases b with
    | ofNat y => simp only [leF, Nat.ble_eq]; exact Int.ofNat_le.symm
    | negSucc y => simp only [leF]; constructor
                   · intro h; cases h
                   · intro h; have h' : (x : Int) ≤ Int.negSucc y := h; omega
  | negSucc x => cases b with
    | ofNat y => simp only [leF, true_iff]; show Int.negSucc x ≤ (y : Int); omega
    | negSucc y => simp only [leF, Nat.ble_eq]; omega
theorem leF_eq (a b : Int) : leF a b = decide (a ≤ b) := by
  cases h : leF a b with
  | true => simp [(leF_iff a b).1 h]
  | false =>
    have : ¬ a ≤ b := fun h' => by rw [(leF_iff a b).2 h'] at h; cases h
    simp [this]
theorem wrap_small {k : IntKind} (hk : isI64 k = true) {n : Nat} (h : n ≤ 9223372036854775807) : k.wrap (n : Int) = n := by
  cases k <;> simp only [isI64, Bool.false_eq_true] at hk
  have e2 : ((2 : Int) ^ IntKind.i64.bits) = 18446744073709551616 := by decide
  have e1 : ((2 : Int) ^ (IntKind.i64.bits - 1)) = 9223372036854775808 := by decide
  have es : IntKind.i64.signed = true := rfl
  unfold IntKind.wrap
  simp only [e1, e2, es, Bool.true_and, decide_eq_true_eq]
  split <;> omega
theorem addF_eq (k : IntKind) (a b : Int) : addF k a b = k.wrap (a + b) := by
  cases a with
  | negSucc x => rfl
  | ofNat x => cases b with
    | negSucc y => rfl
    | ofNat y =>
      show cond (isI64 k && Nat.ble (Nat.add x y) 9223372036854775807) (Int.ofNat (Nat.add x y)) (k.wrap (.ofNat x + .ofNat y)) = _
      cases hc : (isI64 k && Nat.ble (Nat.add x y) 9223372036854775807) with
      | false => rfl
      | true =>
        simp only [Bool.and_eq_true, Nat.ble_eq] at hc
        have e : (Int.ofNat x + Int.ofNat y) = ((Nat.add x y : Nat) : Int) := rfl
        rw [e, wrap_small hc.1 hc.2]; rfl
theorem subF_eq (k : IntKind) (a b : Int) : subF k a b = k.wrap (a - b) := by
  cases a with
  | negSucc x => rfl
  | ofNat x => cases b with
    | negSucc y => rfl
    | ofNat y =>
      show cond (isI64 k && Nat.ble y x && Nat.ble x 9223372036854775807) (Int.ofNat (Nat.sub x y)) (k.wrap (.ofNat x - .ofNat y)) = _
      cases hc : (isI64 k && Nat.ble y x && Nat.ble x 9223372036854775807) with
      | false => rfl
      | true =>
        simp only [Bool.and_eq_true, Nat.ble_eq] at hc
        have e : (Int.ofNat x - Int.ofNat y) = ((x - y : Nat) : Int) := (Int.ofNat_sub hc.1.2).symm
        rw [e, wrap_small hc.1.1 (by omega)]; rfl

def intSel : BinOp → IntKind → Int → Int → Option Value
  | .add => fun k a b => some (.int k (addF k a b))
  | .sub => fun k a b => some (.int k (subF k a b))
  | .mul => fun k a b => some (.int k (wrapF k (a * b)))
  | .eql => fun _ a b => some (.bool (eqF a b))
  | .neq => fun _ a b => some (.bool (!eqF a b))
  | .lss => fun _ a b => some (.bool (!leF b a))
  | .leq => fun _ a b => some (.bool (leF a b))
  | .gtr => fun _ a b => some (.bool (!leF a b))
  | .geq => fun _ a b => some (.bool (leF b a))
  | .quo => fun k a b => if b = 0 then none else some (.int k (wrapF k (a.tdiv b)))
  | .rem => fun k a b => if b = 0 then none else some (.int k (a.tmod b))
  | _ => fun _ _ _ => none

theorem not_le_dec (a b : Int) : (!decide (a ≤ b)) = decide (b < a) := by
  by_cases h : a ≤ b
  · have : ¬ b < a := by omega
    simp [h, this]
  · have : b < a := by omega
    simp [this]

def someV (s : St) : Option Value → Option (Next × St)
  | some v => some (.value v, s)
  | none => none

abbrev OpF := Program → (FuncId → Option Ext) → (Operand → Value) → Oper → St → Option (Next × St)

def binF (op : BinOp) (x y : Operand) : OpF := fun P ext ev o s =>
  match ev x with
  | .int k a => match ev y with
    | .int k' b => if k = k' then match intSel op k a b with
        | some v => some (.value v, s)
        | none => opC P ext ev o s
      else opC P ext ev o s
    | _ => opC P ext ev o s
  | _ => opC P ext ev o s

def isAggD : TypeDesc → Bool
  | .struct _ => true
  | .array .. => true
  | _ => false

def loadF (t : TypeId) (x : Operand) : OpF := fun P ext ev o s =>
  match P.underlying t with
  | none => none
  | some d => match isAggD d with
    | true => opC P ext ev o s
    | false => match ev x with
      | .pointer (some a) => someV s (s.cell a)
      | _ => none

def storeRow (s : St) (a : Addr) (v : Value) : Option Obj → Option (Next × St)
  | some (.cells c e fr) => if a.spot.isNone && decide (a.off < c.size) then some (.skip, s.put a.block (.cells (c.setIfInBounds a.off v) e fr)) else none
  | _ => none

def storeF (t : TypeId) (x y : Operand) : OpF := fun P ext ev o s =>
  match isOneCell (ev y) with
  | false => opC P ext ev o s
  | true => match P.info? t with
    | none => none
    | some i => if i.size = 1 then match ev x with
        | .pointer (some a) => storeRow s a (ev y) (s.get a.block)
        | _ => none
      else none

def unF (op : UnOp) (x : Operand) : OpF := fun P ext ev o s =>
  match op with
  | .not => match ev x with
    | .bool b => some (.value (.bool !b), s)
    | _ => none
  | _ => opC P ext ev o s

def enterF (f : FuncId) (args : Array Value) : OpF := fun P ext ev o s =>
  match ext f with
  | some _ => opC P ext ev o s
  | none => match P.funcs[f]? with
    | some fn => match fn.body with
      | some _ => some (.enter f args, s)
      | none => none
    | none => none

def valueF (fv : Operand) (args : Array Operand) : OpF := fun P ext ev o s =>
  match ev fv with
  | .func (.func f) first captured => enterF f (first ++ args.map ev ++ captured) P ext ev o s
  | _ => none

def lenF (ats : Array TypeId) (args : Array Operand) : OpF := fun P _ ev _ s => someV s (lenC P ats (args.map ev) s)

def calleeSel : Callee → Array Operand → Array TypeId → OpF
  | .value fv => fun args _ => valueF fv args
  | _ => fun _ _ P ext ev o s => opC P ext ev o s

/-- is a method missing? -/
def missB (want : List (String × TypeId)) (got : List Method) : Bool := want.any fun p => !(got.any fun m => m.name == p.1 && m.sig == p.2)

def assertF (x : Operand) (_xt asserted : TypeId) (ok : Bool) : OpF := fun P ext ev o s =>
  match P.underlying asserted with
  | some (.interface want) => match ev x with
    | .iface t v => match P.info? t with
      | some ti => match missB want.toList ti.methods.toList with
        | true => match ok with
          | true => someV s ((((P.info? asserted).bind (·.zero)).map fun z => .tuple #[z, .bool false]))
          | false => none
        | false => some (.value (cond ok (.tuple #[.iface t v, .bool true]) (.iface t v)), s)
      | none => none
    | _ => none
  | _ => opC P ext ev o s

def opSel : Op → OpF
  | .move x => fun _ _ ev _ s => some (.value (ev x), s)
  | .assign x => fun _ _ ev _ s => some (.value (ev x), s)
  | .pick c a b => fun _ _ ev _ s => match ev c with
    | .bool t => some (.value (cond t (ev a) (ev b)), s)
    | _ => none
  | .load t x => loadF t x
  | .store t x y => storeF t x y
  | .fieldAddr st x f => fun P _ ev _ s => someV s (fieldC P st (ev x) f)
  | .indexAddr t x i => fun P _ ev _ s => someV s (indexC P t (ev x) (ev i))
  | .nilCheck x => fun _ _ ev _ s => match ev x with
    | .pointer (some a) => some (.value (.pointer (some a)), s)
    | _ => none
  | .extract t i => fun _ _ ev _ s => match ev t with
    | .tuple vs => someV s vs[i]?
    | _ => none
  | .unOp op _ x => unF op x
  | .binOp op _ x y _ => binF op x y
  | .call c => calleeSel c.callee c.args c.argTypes
  | .typeAssert x xt t ok => assertF x xt t ok
  | _ => fun P ext ev o s => opC P ext ev o s

def opK (P : Program) (ext : FuncId → Option Ext) (ev : Operand → Value) (o : Oper) (s : St) : Option (Next × St) := opSel o.op P ext ev o s

variable {P : Program}

theorem someV_eq {s : St} {x : Option Value} : someV s x = x.map fun v => (.value v, s) := by cases x <;> rfl

theorem intSel_bin {ev : Operand → Value} {o : Oper} {op : BinOp} {t t' : TypeId} {x y : Operand} {k : IntKind} {a b : Int} {v : Value} (ho : o.op = .binOp op t x y t') (hx : ev x = .int k a) (hy : ev y = .int k b)
    (h : intSel op k a b = some v) : pureRun P (execOp ev o) = some (.value v) ∧ addrFree 100 v = true := by
  have e : execOp ev o = (do eqGuard op t x y (ev x) (ev y); binOp op t (ev x) (ev y)) >>= fun v => (Pure.pure (.value v) : Sem Next) := by
    unfold execOp; rw [ho]
  rw [e, hx, hy]
  have hg : eqGuard op t x y (.int k a) (.int k b) = Pure.pure () := by
    unfold eqGuard
    cases op <;> rfl
  rw [hg]
  cases op <;> simp only [intSel, Option.some.injEq, reduceCtorEq, addF_eq, subF_eq, eqF_eq, leF_eq, not_le_dec] at h
  all_goals first
    | (subst h
       refine ⟨?_, rfl⟩
       simp only [binOp, ne_eq, not_true_eq_false, if_false, Op.intArith, Op.intCmp, wrapF_eq]
       rfl)
    | (split at h
       · cases h
       · rename_i hb
         simp only [Option.some.injEq] at h
         subst h
         refine ⟨?_, rfl⟩
         simp only [binOp, ne_eq, not_true_eq_false, if_false, Op.intDiv, if_neg hb, wrapF_eq]
         rfl)

def NoCount (P : Program) : Prop := ∀ (f : FuncId) (fn : Func), P.funcs[f]? = some fn → (fn.name == "runtime.NumGoroutine") = false

theorem run_und {α : Type} {t : TypeId} {d : TypeDesc} {s : St} (h : P.underlying t = some d) (k : TypeDesc → Sem α) : runC P (underlying t >>= k) s = runC P (k d) s := by
  have e : runC P (underlying t >>= k) s = runC P ((match P.underlying t with | some d => (Pure.pure d : Sem TypeDesc) | none => stuck "no such type") >>= k) s := rfl
  rw [e, h]; rfl
theorem run_size {α : Type} {t : TypeId} {d : TypeInfo} {s : St} (h : P.info? t = some d) (k : Nat → Sem α) : runC P (sizeOf t >>= k) s = runC P (k d.size) s := by
  have e : runC P (sizeOf t >>= k) s = runC P (((match P.info? t with | some d => (Pure.pure d : Sem TypeInfo) | none => stuck "no such type") >>= fun i => (Pure.pure i.size : Sem Nat)) >>= k) s := rfl
  rw [e, h]; rfl

theorem loadF_ok {ext : FuncId → Option Ext} {ev : Operand → Value} {o : Oper} {s : St} {r : Next × St} {t : TypeId} {x : Operand} (ho : o.op = .load t x) (h : loadF t x P ext ev o s = some r) : opC P ext ev o s = some r := by
  unfold loadF at h
  split at h
  · cases h
  · rename_i d hd
    split at h
    · exact h
    · rename_i hag
      split at h
      · rename_i a hx
        obtain ⟨dst, op, type, pos, after, guard⟩ := o
        simp only at ho
        subst ho
        have e : execOp ev ⟨dst, .load t x, type, pos, after, guard⟩ = underlying t >>= fun d => (match d with
            | .struct _ | .array _ _ => (Pure.pure true : Sem Bool)
            | _ => Pure.pure false) >>= fun b => (if b then sizeOf t >>= fun n => loadCells a n >>= fun c => (Pure.pure (.agg c) : Sem Value) else Go.load a) >>= fun v => (Pure.pure (.value v) : Sem Next) := by
          simp only [execOp, Instr.loadAt, Instr.sureAddr, hx, loadVar, isAgg]
          simp only [bind_assoc]
          rfl
        simp only [opC]
        rw [e, run_und hd]
        cases d <;> simp only [isAggD, Bool.true_eq_false] at hag <;> (
          rw [someV_eq] at h
          show runC P (Go.load a >>= fun v => (Pure.pure (.value v) : Sem Next)) s = some r
          rw [runC_bind]
          unfold Go.load
          simp only [runC]
          cases hc : s.cell a with
          | none => rw [hc] at h; cases h
          | some v => rw [hc] at h; exact h)
      · cases h

theorem storeF_ok {ext : FuncId → Option Ext} {ev : Operand → Value} {o : Oper} {s : St} {r : Next × St} {t : TypeId} {x y : Operand} (ho : o.op = .store t x y) (h : storeF t x y P ext ev o s = some r) : opC P ext ev o s = some r := by
  unfold storeF at h
  split at h
  · exact h
  · rename_i hone
    split at h
    · cases h
    · rename_i i hi
      split at h
      · rename_i hsz
        split at h
        · rename_i a hx
          obtain ⟨dst, op, type, pos, after, guard⟩ := o
          simp only at ho
          subst ho
          have hcells : (ev y).cells = #[ev y] := by
            revert hone
            generalize ev y = v
            intro hone
            cases v <;> first | rfl | simp [isOneCell] at hone
          have e : execOp ev ⟨dst, .store t x y, type, pos, after, guard⟩ = sizeOf t >>= fun n => (if (ev y).cells.size ≠ n then (stuck "storeVar: the value has not the size of the variable" : Sem Unit) else Pure.pure ()) >>= fun _ => storeCells a (ev y).cells.toList >>= fun _ => (Pure.pure .skip : Sem Next) := by
            simp only [execOp, Instr.storeAt, Instr.sureAddr, hx, storeVar]
            simp only [bind_assoc]
            show (sizeOf t >>= fun n => _) = _
            congr 1; funext n
            split <;> rfl
          simp only [opC]
          rw [e, run_size hi, hsz, hcells]
          show runC P (store (a.add 0) (ev y) >>= fun _ => (Pure.pure .skip : Sem Next)) s = some r
          have ha : a.add 0 = a := by simp [Addr.add]
          rw [ha]
          unfold storeRow at h
          split at h
          · rename_i c e' fr hg
            split at h
            · rename_i hb
              simp only [Bool.and_eq_true, decide_eq_true_eq] at hb
              rw [runC_bind]
              unfold store
              simp only [runC, hg, hone, Bool.true_and, hb.1, hb.2, decide_true, if_true]
              exact h
            · cases h
          · cases h
        · cases h
      · cases h

theorem binF_ok {ext : FuncId → Option Ext} {ev : Operand → Value} {o : Oper} {s : St} {r : Next × St} {op : BinOp} {t t' : TypeId} {x y : Operand} (ho : o.op = .binOp op t x y t') (h : binF op x y P ext ev o s = some r) : opC P ext ev o s = some r := by
  unfold binF at h
  split at h
  · rename_i k a hx
    split at h
    · rename_i k' b hy
      split at h
      · rename_i hk
        subst hk
        split at h
        · rename_i v hv
          obtain ⟨h1, h2⟩ := intSel_bin (P := P) ho hx hy hv
          obtain ⟨dst, op', type, pos, after, guard⟩ := o
          simp only at ho
          subst ho
          have hfr : freeRun P (execOp ev ⟨dst, .binOp op t x y t', type, pos, after, guard⟩) = some v := by
            unfold freeRun; rw [h1]; simp only [h2, if_true]
          have ha : (addrFree 100 (ev x) && addrFree 100 (ev y)) = true := by rw [hx, hy]; rfl
          show (if (addrFree 100 (ev x) && addrFree 100 (ev y)) = true then (freeRun P (execOp ev ⟨dst, .binOp op t x y t', type, pos, after, guard⟩)).map fun x => (Next.value x, s) else _) = some r
          rw [if_pos ha, hfr]; exact h
        · exact h
      · exact h
    · exact h
  · exact h

theorem unF_ok {ext : FuncId → Option Ext} {ev : Operand → Value} {o : Oper} {s : St} {r : Next × St} {op : UnOp} {t : TypeId} {x : Operand} (ho : o.op = .unOp op t x) (h : unF op x P ext ev o s = some r) : opC P ext ev o s = some r := by
  unfold unF at h
  split at h
  · split at h
    · rename_i b hx
      obtain ⟨dst, op', type, pos, after, guard⟩ := o
      simp only at ho
      subst ho
      have hfr : freeRun P (execOp ev ⟨dst, .unOp .not t x, type, pos, after, guard⟩) = some (.bool !b) := by
        unfold freeRun
        have e : execOp ev ⟨dst, .unOp .not t x, type, pos, after, guard⟩ = Op.unary .not (ev x) >>= fun v => (Pure.pure (.value v) : Sem Next) := rfl
        rw [e, hx]; rfl
      have ha : allFree ev (Op.unOp .not t x).operands.toList = true := by
        simp [allFree, Op.operands, hx, addrFree]
      show (if allFree ev (Op.unOp .not t x).operands.toList = true then (freeRun P (execOp ev ⟨dst, .unOp .not t x, type, pos, after, guard⟩)).map fun x => (Next.value x, s) else _) = some r
      rw [if_pos ha, hfr]; exact h
    · cases h
  · exact h

theorem enterF_ok (hng : NoCount P) {ext : FuncId → Option Ext} {ev : Operand → Value} {o : Oper} {s : St} {r : Next × St} {f : FuncId} {args : Array Value} (hx : opC P ext ev o s = enterC P ext f args s)
    (h : enterF f args P ext ev o s = some r) : enterC P ext f args s = some r := by
  unfold enterF at h
  cases he : ext f with
  | some e => rw [he] at h; rw [← hx]; exact h
  | none =>
    rw [he] at h
    simp only at h
    cases hf : P.funcs[f]? with
    | none => rw [hf] at h; cases h
    | some fn =>
      rw [hf] at h
      simp only at h
      cases hb : fn.body with
      | none => rw [hb] at h; cases h
      | some c =>
        rw [hb] at h
        unfold enterC
        rw [he]
        simp only [hf, hb, hng f fn hf, Option.isSome_some, Bool.not_false, Bool.and_self, if_true]
        exact h

theorem miss_none {want : Array (String × TypeId)} {got : Array Method} (h : missB want.toList got.toList = false) : Instr.missingMethod want got = none := by
  have hf : (want.toList.filter fun (x : String × TypeId) => match x with | (name, sig) => !got.any fun m => m.name == name && m.sig == sig) = [] := by
    rw [List.filter_eq_nil_iff]
    rintro ⟨n, g⟩ hm hp
    unfold missB at h
    rw [List.any_eq_false] at h
    have := h (n, g) hm
    rw [Array.any_toList] at this
    exact this hp
  unfold Instr.missingMethod
  rw [hf]
  rfl

theorem part_some (pd : String → Bool) (f : String → String) (l : List String) (hl : l ≠ []) :
    ∃ m, (match l.partition pd with | (u, e) => Instr.least e <|> Instr.least (u.map f)) = some m := by
  cases l with
  | nil => exact absurd rfl hl
  | cons p l =>
    rw [List.partition_eq_filter_filter]
    simp only
    cases hc : pd p with
    | true =>
      rw [List.filter_cons_of_pos hc]
      cases List.filter (not ∘ pd) (p :: l) with
      | cons y ys => exact ⟨_, rfl⟩
      | nil => exact ⟨_, rfl⟩
    | false =>
      rw [show List.filter (not ∘ pd) (p :: l) = p :: List.filter (not ∘ pd) l from List.filter_cons_of_pos (by simp [hc])]
      exact ⟨_, rfl⟩

theorem miss_some {want : Array (String × TypeId)} {got : Array Method} (h : missB want.toList got.toList = true) : ∃ m, Instr.missingMethod want got = some m := by
  have hf : (want.toList.filter fun (x : String × TypeId) => match x with | (name, sig) => !got.any fun m => m.name == name && m.sig == sig) ≠ [] := by
    intro hn
    rw [List.filter_eq_nil_iff] at hn
    unfold missB at h
    rw [List.any_eq_true] at h
    obtain ⟨⟨n, g⟩, hm, hp⟩ := h
    rw [Array.any_toList] at hp
    exact hn (n, g) hm hp
  exact part_some _ _ _ fun hn => hf (List.map_eq_nil_iff.1 hn)

theorem opK_ok (hng : NoCount P) {ext : FuncId → Option Ext} {ev : Operand → Value} {o : Oper} {s : St} {r : Next × St} (h : opK P ext ev o s = some r) : opC P ext ev o s = some r := by
  unfold opK at h
  cases ho : o.op with
  | load t a => rw [ho] at h; exact loadF_ok ho h
  | store t a x => rw [ho] at h; exact storeF_ok ho h
  | binOp op t x y t' => rw [ho] at h; exact binF_ok ho h
  | unOp op t x => rw [ho] at h; exact unF_ok ho h
  | call c =>
    rw [ho] at h
    obtain ⟨callee, args, ats⟩ := c
    cases callee with
    | value fv =>
      simp only [opSel, calleeSel, valueF] at h
      obtain ⟨dst, op', type, pos, after, guard⟩ := o
      simp only at ho
      subst ho
      split at h
      · rename_i f first captured hfv
        simp only [opC, hfv]
        refine enterF_ok hng (ev := ev) (o := ⟨dst, .call ⟨.value fv, args, ats⟩, type, pos, after, guard⟩) ?_ h
        simp only [opC, hfv]
      · cases h
    | invoke r n => exact h
    | builtin b => exact h
  | typeAssert x xt t ok =>
    rw [ho] at h
    obtain ⟨dst, op', type, pos, after, guard⟩ := o
    simp only at ho
    subst ho
    simp only [opSel, assertF] at h
    simp only [opC, typeAssertC]
    split at h
    · rename_i want hu
      rw [hu]
      split at h
      · rename_i t' v hx
        rw [hx]
        simp only
        split at h
        · rename_i ti hti
          rw [hti]
          simp only
          split at h
          · rename_i hm
            obtain ⟨m, hmm⟩ := miss_some hm
            rw [hmm]
            cases ok with
            | true =>
              rw [someV_eq] at h
              simp only [if_true]
              cases hz : (P.info? t).bind (·.zero) with
              | none => rw [hz] at h; cases h
              | some z => rw [hz] at h; exact h
            | false => cases h
          · rename_i hm
            rw [miss_none hm]
            cases ok <;> exact h
        · cases h
      · cases h
    · simp only [opC, typeAssertC] at h; exact h
  | move x =>
    rw [ho] at h
    obtain ⟨dst, op', type, pos, after, guard⟩ := o
    simp only at ho
    subst ho
    simp only [opSel] at h
    simp only [opC]; exact h
  | assign x =>
    rw [ho] at h
    obtain ⟨dst, op', type, pos, after, guard⟩ := o
    simp only at ho
    subst ho
    simp only [opSel] at h
    simp only [opC]; exact h
  | pick c a b =>
    rw [ho] at h
    obtain ⟨dst, op', type, pos, after, guard⟩ := o
    simp only at ho
    subst ho
    simp only [opSel] at h
    simp only [opC]
    split at h
    · rename_i t ht
      rw [ht]
      cases t <;> exact h
    · cases h
  | fieldAddr st x f =>
    rw [ho] at h
    obtain ⟨dst, op', type, pos, after, guard⟩ := o
    simp only at ho
    subst ho
    simp only [opSel, someV_eq] at h
    simp only [opC]; exact h
  | indexAddr st x f =>
    rw [ho] at h
    obtain ⟨dst, op', type, pos, after, guard⟩ := o
    simp only at ho
    subst ho
    simp only [opSel, someV_eq] at h
    simp only [opC]; exact h
  | nilCheck x =>
    rw [ho] at h
    obtain ⟨dst, op', type, pos, after, guard⟩ := o
    simp only at ho
    subst ho
    simp only [opSel] at h
    simp only [opC]; exact h
  | extract t i =>
    rw [ho] at h
    obtain ⟨dst, op', type, pos, after, guard⟩ := o
    simp only at ho
    subst ho
    simp only [opSel] at h
    simp only [opC]
    split at h
    · rename_i vs hvs
      rw [hvs]
      simp only
      cases hi : vs[i]? with
      | none => rw [hi] at h; cases h
      | some v => rw [hi] at h; exact h
    · cases h
  | _ => rw [ho] at h; exact h

end
end Go.Am
