import Derived.Test.YtkandjlcimggkaaGreatDoorAmFast
import Derived.Test.YtkandjlcimggkaaGreatDoorAm3
namespace Go.Am
noncomputable section

structure ActC where
  tmps : Tr Value
  size : Nat

def ActC.get (a : ActC) (t : Nat) : Value := (a.tmps.get t).getD undef
def ActC.eval (a : ActC) : Operand → Value
  | .tmp t => a.get t
  | .const v => v
  | .global g => .pointer (some ⟨g, 0, none⟩)
  | .func f => .func (.func f) #[] #[]
def ActC.put (a : ActC) (d : Option Tmp) (v : Value) : ActC :=
  match a with
  | ⟨t, n⟩ => match d with
    | some d => cond (Nat.blt d n) ⟨t.set v deep d, n⟩ ⟨t, n⟩
    | none => ⟨t, n⟩

/-- one step, then the rest: what is handed on is laid open -/
def andThen {α : Type} (r : Option (ActC × St)) (k : ActC → St → Option α) : Option α :=
  match r with
  | none => none
  | some (⟨t, n⟩, ⟨h, m⟩) => k ⟨t, n⟩ ⟨h, m⟩

theorem andThen_eq {α : Type} (r : Option (ActC × St)) (k : ActC → St → Option α) : andThen r k = match r with
    | none => none
    | some (a, s) => k a s := by
  cases r with
  | none => rfl
  | some p => rfl

inductive Cls where
  | pure | alloc | load | held
  deriving DecidableEq

/-- what an operation may do to memory -/
def cls (P : Program) : Op → Cls
  | .move _ | .assign _ | .pick .. | .build .. | .fieldAddr .. | .indexAddr .. | .makeInterface .. | .makeFunc .. | .extract .. | .nilCheck _ | .unOp .. | .field .. | .index .. | .binOp .. | .typeAssert .. => .pure
  | .slice t .. => match P.underlying t with
    | some .string => .pure
    | _ => .load
  | .alloc _ | .box .. | .buildSlice .. | .makeMap .. | .makeSlice .. => .alloc
  | .load .. | .lookup .. => .load
  | .call { callee := .builtin .max, .. } | .call { callee := .builtin .min, .. } => .pure
  | .call { callee := .builtin .len, argTypes, .. } => match (argTypes[0]? : Option TypeId).bind P.underlying with
    | some .string | some (.slice _) => .pure
    | _ => .load
  | .convert src dst _ => match P.underlying src, P.underlying dst with
    | some (.slice _), some .string => .load
    | some .string, some (.slice _) => .alloc
    | some (.slice _), _ => .held
    | _, _ => .pure
  | _ => .held

/-- the row that a reading operation reads: 'some none': none at all; 'none': another object -/
def readsC (ev : Operand → Value) : Op → Option (Option Addr)
  | .load _ ad => match ev ad with
    | .pointer (some a) => some (some a)
    | _ => none
  | .convert _ _ x => match ev x with
    | .slice none _ _ => some none
    | .slice (some a) _ _ => some (some a)
    | _ => none
  | .slice _ x .. => match ev x with
    | .slice none _ _ => some none
    | .slice (some a) _ _ => some (some a)
    | _ => none
  | _ => none

structure Step where
  st : St
  act : ActC

def yieldedC (ops : List Oper) (a : ActC) (j : Nat) : Option Bool :=
  match (ops[j]?).bind (·.dst) with
  | some d => if Nat.blt d a.size = true then match a.get d with
    | .bool b => some b
    | _ => none
    else none
  | none => none

abbrev CallC := FuncId → Array Value → St → Option (Value × St)

/-- the result is put into its place; names are only ever added -/
def upC (call : CallC) (o : Oper) (a : ActC) (s0 : St) : Next × St → Option (ActC × St)
  | (.value v, s) => if Nat.ble s0.next s.next = true then some (a.put o.dst v, s) else none
  | (.skip, s) => if Nat.ble s0.next s.next = true then some (a.put o.dst undef, s) else none
  | (.enter f args, s) => match call f args s with
    | some (v, s') => if (Nat.ble s0.next s.next && Nat.ble s.next s'.next) = true then some (a.put o.dst v, s') else none
    | none => none
  | _ => none

def constOk : Operand → Bool
  | .const v => addrFree 100 v
  | .tmp _ | .func _ => true
  | .global _ => false

def stepC (P : Program) (ext : FuncId → Option Ext) (call : CallC) (ops : List Oper) (o : Oper) (a : ActC) (s : St) : Option (ActC × St) :=
  if Region.wanted o (yieldedC ops a) then
    if o.op.operands.toList.all constOk then
      match opK P ext a.eval o s with
      | none => none
      | some r => upC call o a s r
    else none
  else some (a.put o.dst undef, s)

/-- as much of the memory as the operation looks at -/
def viewC (P : Program) (ev : Operand → Value) (o : Oper) (s : St) : St :=
  match cls P o.op with
  | .held => s
  | .pure | .alloc => ⟨.e, s.next⟩
  | .load => match readsC ev o.op with
    | some (some a) => match s.get a.block with
      | some ob => if a.block < s.next then ⟨Tr.set ob deep .e a.block, s.next⟩ else ⟨.e, s.next⟩
      | none => ⟨.e, s.next⟩
    | some none => ⟨.e, s.next⟩
    | none => s

/-- the memory after an operation that writes nothing that is there -/
def mergeC (c : Cls) (s t : St) : Option St :=
  if t.next = s.next then some s
  else if c = .alloc ∧ t.next = s.next + 1 then (t.get s.next).map s.push
  else none

/-- a step in a region whose operations may go in another order -/
def stepD (P : Program) (ext : FuncId → Option Ext) (call : CallC) (ops : List Oper) (o : Oper) (a : ActC) (s : St) : Option (ActC × St) :=
  if Region.wanted o (yieldedC ops a) then
    if o.op.operands.toList.all constOk then
      match opK P ext a.eval o (viewC P a.eval o s) with
      | none => none
      | some r => if cls P o.op = .held then upC call o a s r else
        match r with
        | (.value v, t) => (mergeC (cls P o.op) s t).map fun s' => (a.put o.dst v, s')
        | _ => none
    else none
  else some (a.put o.dst undef, s)

/-- the operations of a region, in the order of the text -/
def opsC (P : Program) (ext : FuncId → Option Ext) (call : CallC) (ops : List Oper) (rest : List Oper) : ActC → St → Option (ActC × St) :=
  List.rec (motive := fun _ => ActC → St → Option (ActC × St)) (fun a s => some (a, s))
    (fun o _ ih a s => andThen (stepC P ext call ops o a s) ih) rest

theorem opsC_nil {P : Program} {ext : FuncId → Option Ext} {call : CallC} {ops : List Oper} {a : ActC} {s : St} : opsC P ext call ops [] a s = some (a, s) := rfl
theorem opsC_cons {P : Program} {ext : FuncId → Option Ext} {call : CallC} {ops : List Oper} {o : Oper} {rest : List Oper} {a : ActC} {s : St} : opsC P ext call ops (o :: rest) a s =
    match stepC P ext call ops o a s with
    | none => none
    | some (a', s') => opsC P ext call ops rest a' s' := by
  rw [← andThen_eq]; rfl

/-- the same, with all the states: before each operation, and the last -/
def opsD (P : Program) (ext : FuncId → Option Ext) (call : CallC) (ops : List Oper) (rest : List Oper) : ActC → St → Option (List Step) :=
  List.rec (motive := fun _ => ActC → St → Option (List Step)) (fun a s => some [⟨s, a⟩])
    (fun o _ ih a s => andThen (stepD P ext call ops o a s) fun a' s' => match ih a' s' with
        | some l => some (⟨s, a⟩ :: l)
        | none => none) rest

theorem opsD_nil {P : Program} {ext : FuncId → Option Ext} {call : CallC} {ops : List Oper} {a : ActC} {s : St} : opsD P ext call ops [] a s = some [⟨s, a⟩] := rfl
theorem opsD_cons {P : Program} {ext : FuncId → Option Ext} {call : CallC} {ops : List Oper} {o : Oper} {rest : List Oper} {a : ActC} {s : St} : opsD P ext call ops (o :: rest) a s =
    match stepD P ext call ops o a s with
    | none => none
    | some (a', s') => match opsD P ext call ops rest a' s' with
      | some l => some (⟨s, a⟩ :: l)
      | none => none := by
  show andThen (stepD P ext call ops o a s) (fun a' s' => match opsD P ext call ops rest a' s' with
      | some l => some (⟨s, a⟩ :: l)
      | none => none) = _
  rw [andThen_eq]

/-- the edges that bind -/
def edges (o : Oper) : List Nat := (o.after.toList.filter (Region.binds .any)).map (·.on)
def orAll (acc : List Nat) : List Nat → Nat
  | [] => 0
  | e :: es => 2 ^ e ||| acc.getD e 0 ||| orAll acc es
/-- for each operation the set of those that must come before it -/
def befores : List Nat → List Oper → List Nat
  | acc, [] => acc
  | acc, o :: rest => befores (acc ++ [orAll acc (edges o)]) rest

def unord (b : List Nat) (i j : Nat) : Bool := !(b.getD j 0).testBit i && !(b.getD i 0).testBit j
def isHeld (P : Program) (o : Oper) : Bool := cls P o.op == .held

def allB (n : Nat) (f : Nat → Bool) : Bool := (List.range n).all f

/-- what can be seen of a region's text: edges point back; operations without an order between them do not meet -/
def textOk (P : Program) (ops : List Oper) (b : List Nat) : Bool :=
  allB ops.length fun i => match ops[i]? with
    | none => false
    | some x => (edges x).all (fun e => decide (e < i)) &&
      allB i fun j => match ops[j]? with
        | none => false
        | some y => !unord b i j || (Oper.apart ops.toArray y x && !(isHeld P x && isHeld P y))

def eqV : Value → Value → Bool
  | .bool a, .bool b => a == b
  | .int j a, .int k b => j == k && a == b
  | .string a, .string b => a == b
  | .pointer a, .pointer b => a == b
  | .slice a i j, .slice b k l => a == b && i == k && j == l
  | .map a, .map b => a == b
  | .nilIface, .nilIface | .nilFunc, .nilFunc => true
  | .iface t (.pointer a), .iface u (.pointer b) => t == u && a == b
  | .iface t (.agg x), .iface u (.agg y) => match x.toList, y.toList with
    | [.pointer a], [.pointer b] => t == u && a == b
    | _, _ => false
  | _, _ => false

def eqVs : List Value → List Value → Bool
  | [], [] => true
  | x :: xs, y :: ys => eqV x y && eqVs xs ys
  | _, _ => false

def eqEs : List MapEntry → List MapEntry → Bool
  | [], [] => true
  | x :: xs, y :: ys => eqV x.key y.key && eqV x.val y.val && x.born == y.born && eqEs xs ys
  | _, _ => false

/-- the object is the same in both -/
def sameObj (s s' : St) (b : Nat) : Bool :=
  match s.get b, s'.get b with
  | some (.cells c e f), some (.cells c' e' f') => e == e' && f == f' && eqVs c.toList c'.toList
  | some (.map es k), some (.map es' k') => k == k' && eqEs es.toList es'.toList
  | _, _ => false

/-- an operation 'i' that holds no place, against one that holds one, 'j', without an order between them -/
def pairOk (P : Program) (steps : List Step) (x : Oper) (i j : Nat) : Bool :=
  match steps[i]?, steps[i + 1]?, steps[j]?, steps[j + 1]? with
  | some si, some si1, some sj, some sj1 =>
    match cls P x.op with
    | .load => match readsC si.act.eval x.op with
      | some none => true
      | some (some a) => decide (a.block < si.st.next) &&
          (if a.block < sj1.st.next then decide (a.block < sj.st.next) && sameObj sj.st sj1.st a.block else true)
      | none => false
    | .alloc => decide (j < i) || decide (si1.st.next = si.st.next) || sameObj sj.st sj1.st si.st.next
    | _ => true
  | _, _, _, _ => false

/-- operations that read or make rows, without an order with one that may write -/
def rowsOk (P : Program) (ops : List Oper) (b : List Nat) (steps : List Step) : Bool :=
  allB ops.length fun i => match ops[i]?, steps[i]? with
    | some x, some si => isHeld P x || (cls P x.op == .pure) || !Region.wanted x (yieldedC ops si.act) ||
        allB ops.length fun j => match ops[j]? with
          | some y => !isHeld P y || !unord b i j || pairOk P steps x i j
          | none => false
    | _, _ => false

inductive ExC where
  | normal | exit (id : Nat) | ret

abbrev RecC := Code → ActC → St → Option (ExC × ActC × St)
abbrev CodeF := Program → (FuncId → Option Ext) → CallC → RecC → ActC → St → Option (ExC × ActC × St)

def seqF (x y : Code) : CodeF := fun _ _ _ rec a s => match rec x a s with
  | some (.normal, a', s') => rec y a' s'
  | r => r
def condF (c : Operand) (x y : Code) : CodeF := fun _ _ _ rec a s => if constOk c = false then none else match a.eval c with
  | .bool true => rec x a s
  | .bool false => rec y a s
  | _ => none
def blockF (id : Nat) (x : Code) : CodeF := fun _ _ _ rec a s => match rec x a s with
  | some (.exit id', a', s') => if id' = id then some (.normal, a', s') else some (.exit id', a', s')
  | r => r
def loopF (x : Code) : CodeF := fun _ _ _ rec a s => match rec x a s with
  | some (.normal, a', s') => rec (.loop x) a' s'
  | r => r
def regionF (ops : Array Oper) : CodeF := fun P ext call _ a s => match opsC P ext call ops.toList ops.toList a s with
  | some (a', s') => some (.normal, a', s')
  | none => none
def drawnF (ops : Array Oper) : CodeF := fun P ext call _ a s =>
  match opsD P ext call ops.toList ops.toList a s with
  | none => none
  | some steps =>
    if textOk P ops.toList (befores [] ops.toList) && rowsOk P ops.toList (befores [] ops.toList) steps then
      match steps[ops.size]? with
      | some l => some (.normal, l.act, l.st)
      | none => none
    else none

def codeSel : Code → CodeF
  | .skip => fun _ _ _ _ a s => some (.normal, a, s)
  | .ret => fun _ _ _ _ a s => some (.ret, a, s)
  | .exit id => fun _ _ _ _ a s => some (.exit id, a, s)
  | .seq x y => seqF x y
  | .cond c x y => condF c x y
  | .block id x => blockF id x
  | .loop x => loopF x
  | .region _ ops false => regionF ops
  | .region _ ops true => drawnF ops
  | _ => fun _ _ _ _ _ _ => none

def codeC (P : Program) (ext : FuncId → Option Ext) (call : CallC) (n : Nat) : RecC :=
  Nat.rec (motive := fun _ => RecC) (fun _ _ _ => none) (fun _ ih c a s => codeSel c P ext call ih a s) n

theorem codeC_zero {P : Program} {ext : FuncId → Option Ext} {call : CallC} {c : Code} {a : ActC} {s : St} : codeC P ext call 0 c a s = none := rfl
theorem codeC_succ {P : Program} {ext : FuncId → Option Ext} {call : CallC} {n : Nat} {c : Code} {a : ActC} {s : St} : codeC P ext call (n + 1) c a s = codeSel c P ext call (codeC P ext call n) a s := rfl

def resC (P : Program) (a : ActC) (s : St) : List ResultVar → Option (List Value)
  | [] => some []
  | .tmp t :: rs => (resC P a s rs).map (a.get t :: ·)
  | .cell ad t :: rs =>
    match a.get ad with
    | .pointer (some p) => match runC P (loadVar t p) s, resC P a s rs with
      | some (v, _), some vs => some (v :: vs)
      | _, _ => none
    | _ => none

def retC : List Value → Value
  | [v] => v
  | vs => .tuple vs.toArray

def setAll (l : List Value) : Nat → Tr Value → Tr Value :=
  List.rec (motive := fun _ => Nat → Tr Value → Tr Value) (fun _ t => t) (fun v _ ih i t => ih (Nat.succ i) (t.set v deep i)) l

theorem setAll_nil {i : Nat} {t : Tr Value} : setAll [] i t = t := rfl
theorem setAll_cons {v : Value} {l : List Value} {i : Nat} {t : Tr Value} : setAll (v :: l) i t = setAll l (i + 1) (t.set v deep i) := rfl

/-- a call: 'known' gives what is known of a call by other means -/
def callS (P : Program) (ext : FuncId → Option Ext) (known : FuncId → Option CallC) (fuel : Nat) (call : CallC) : CallC := fun f args s =>
  match known f with
  | some k => k f args s
  | none => match P.funcs[f]? with
    | none => none
    | some fn => match fn.body with
      | none => none
      | some c =>
        if max args.size fn.ntmps > 2 ^ 20 then none else
        match codeC P ext call fuel c ⟨setAll args.toList 0 .e, max args.size fn.ntmps⟩ s with
        | some (.exit _, _, _) | none => none
        | some (_, a, s') => match resC P a s' fn.results.toList with
          | some vs => some (retC vs, s')
          | none => none

def callC (P : Program) (ext : FuncId → Option Ext) (known : FuncId → Option CallC) (fuel : Nat) (n : Nat) : CallC :=
  Nat.rec (motive := fun _ => CallC) (fun _ _ _ => none) (fun _ ih => callS P ext known fuel ih) n

theorem callC_zero {P : Program} {ext : FuncId → Option Ext} {known : FuncId → Option CallC} {fuel : Nat} {f : FuncId} {args : Array Value} {s : St} : callC P ext known fuel 0 f args s = none := rfl
theorem callC_succ {P : Program} {ext : FuncId → Option Ext} {known : FuncId → Option CallC} {fuel n : Nat} {f : FuncId} {args : Array Value} {s : St} :
    callC P ext known fuel (n + 1) f args s = callS P ext known fuel (callC P ext known fuel n) f args s := rfl

end
end Go.Am

namespace Go.Am
noncomputable section

/-- the calls of the top function that draw -/
inductive Sp where
  | mode (x : Operand)
  | next (x : Operand) (n : Nat)

structure SpIds where
  mode : FuncId
  next : FuncId
  box : Nat

def spOf (d : SpIds) (o : Oper) : Option Sp :=
  match o.op with
  | .call c => match c.callee with
    | .value (.func f) =>
      if f = d.mode then match c.args.toList with
        | [x] => some (.mode x)
        | _ => none
      else if f = d.next then match c.args.toList with
        | [x, .const (.int .i64 (.ofNat n))] => if n = 2 ∨ n = 6 then some (.next x n) else none
        | _ => none
      else none
    | _ => none
  | _ => none

def isBox (d : SpIds) : Value → Bool
  | .pointer (some p) => p.block == d.box && p.off == 0 && p.spot.isNone
  | _ => false

/-- the draws that a run is to make: the bound, and what is drawn -/
abbrev Script := List (Nat × Nat)

def drawC (d : SpIds) (o : Oper) (a : ActC) (s : St) (x : Operand) (n : Nat) (f : Nat → Nat) : Script → Option (ActC × St × Script)
  | (m, v) :: rest => if m = n ∧ isBox d (a.eval x) = true then some (a.put o.dst (.int .i64 (.ofNat (f v))), s, rest) else none
  | [] => none

/-- a step of the top function -/
def stepN (P : Program) (ext : FuncId → Option Ext) (call : CallC) (d : SpIds) (ops : List Oper) (o : Oper) (a : ActC) (s : St) (l : Script) : Option (ActC × St × Script) :=
  match spOf d o with
  | none => match stepC P ext call ops o a s with
    | some (a', s') => some (a', s', l)
    | none => none
  | some q => if o.guard.isSome || !o.op.operands.toList.all constOk then none else
    match q with
    | .mode x => drawC d o a s x 3 (fun v => 1 + v) l
    | .next x n => drawC d o a s x n (fun v => v) l

def opsN (P : Program) (ext : FuncId → Option Ext) (call : CallC) (d : SpIds) (ops : List Oper) : List Oper → ActC → St → Script → Option (ActC × St × Script)
  | [], a, s, l => some (a, s, l)
  | o :: rest, a, s, l =>
    match stepN P ext call d ops o a s l with
    | none => none
    | some (⟨t, n⟩, ⟨h, m⟩, l') => opsN P ext call d ops rest ⟨t, n⟩ ⟨h, m⟩ l'

/-- the top function's own code: no region whose order is drawn -/
def codeN (P : Program) (ext : FuncId → Option Ext) (call : CallC) (d : SpIds) : Nat → Code → ActC → St → Script → Option (ExC × ActC × St × Script)
  | 0, _, _, _, _ => none
  | n + 1, c, a, s, l =>
    match c with
    | .skip => some (.normal, a, s, l)
    | .ret => some (.ret, a, s, l)
    | .exit id => some (.exit id, a, s, l)
    | .seq x y => match codeN P ext call d n x a s l with
      | some (.normal, a', s', l') => codeN P ext call d n y a' s' l'
      | r => r
    | .cond c x y => if constOk c = false then none else match a.eval c with
      | .bool true => codeN P ext call d n x a s l
      | .bool false => codeN P ext call d n y a s l
      | _ => none
    | .block id x => match codeN P ext call d n x a s l with
      | some (.exit id', a', s', l') => if id' = id then some (.normal, a', s', l') else some (.exit id', a', s', l')
      | r => r
    | .loop x => match codeN P ext call d n x a s l with
      | some (.normal, a', s', l') => codeN P ext call d n (.loop x) a' s' l'
      | r => r
    | .region _ ops false => match opsN P ext call d ops.toList ops.toList a s l with
      | some (a', s', l') => some (.normal, a', s', l')
      | none => none
    | _ => none

end
end Go.Am

namespace Go.Am
variable {P : Program}

/-- what the program must be like -/
structure Fine (P : Program) : Prop where
  zf : zerosFree P
  ng : NoCount P

theorem vr_undef {ρ : Ren} : VR P ρ undef undef := .tuple #[] #[] rfl fun i h _ => by simp at h

/-- the values of a function's body, on both sides -/
structure ActR (P : Program) (ρ : Ren) (a : ActC) (a' : Act) : Prop where
  size : a'.tmps.size = a.size
  small : a.size ≤ 2 ^ 20
  at_ : ∀ t, VR P ρ (a.get t) (a'.tmps.getD t undef)
  defers : a'.defers = []

theorem ActR.mono {ρ ρ1 : Ren} (hle : Le ρ ρ1) {a : ActC} {a' : Act} (h : ActR P ρ a a') : ActR P ρ1 a a' :=
  ⟨h.size, h.small, fun t => (h.at_ t).mono hle, h.defers⟩

theorem small_deep {n t : Nat} (h : n ≤ 2 ^ 20) (ht : t < n) : t + 1 < 2 ^ deep := by unfold deep; omega

theorem ActC.put_size (a : ActC) (d : Option Tmp) (v : Value) : (a.put d v).size = a.size := by
  cases d with
  | none => rfl
  | some d => cases h : Nat.blt d a.size <;> simp only [ActC.put, h, cond_true, cond_false]
theorem ActC.get_put_ne (a : ActC) (d : Option Tmp) (v : Value) {t : Nat} (h : d ≠ some t) : (a.put d v).get t = a.get t := by
  cases d with
  | none => rfl
  | some d =>
    have hne : d ≠ t := fun e => h (e ▸ rfl)
    cases h : Nat.blt d a.size <;> simp only [ActC.put, h, cond_true, cond_false, ActC.get]
    rw [Tr.get_set_ne _ _ _ _ _ hne]
theorem ActC.get_put_same (a : ActC) (v : Value) {t : Nat} (hs : a.size ≤ 2 ^ 20) (ht : t < a.size) : (a.put (some t) v).get t = v := by
  have hb : Nat.blt t a.size = true := Nat.ble_eq_true_of_le ht
  simp only [ActC.put, hb, cond_true, ActC.get]; rw [Tr.get_set_same _ _ _ _ (small_deep hs ht)]; rfl
theorem ActC.put_out (a : ActC) (v : Value) {t : Nat} (ht : ¬ t < a.size) : a.put (some t) v = a := by
  have hb : Nat.blt t a.size = false := by
    cases h : Nat.blt t a.size with
    | false => rfl
    | true => exact absurd (Nat.le_of_ble_eq_true h) ht
  simp only [ActC.put, hb, cond_false]

theorem Act.put_size (a : Act) (d : Option Tmp) (v : Value) : (a.put d v).tmps.size = a.tmps.size := by
  cases d <;> simp [Act.put]
theorem Act.put_defers' (a : Act) (d : Option Tmp) (v : Value) : (a.put d v).defers = a.defers := by cases d <;> rfl
theorem Act.getD_put_ne (a : Act) (d : Option Tmp) (v : Value) {t : Nat} (h : d ≠ some t) : (a.put d v).tmps.getD t undef = a.tmps.getD t undef := by
  cases d with
  | none => rfl
  | some d =>
    have hne : d ≠ t := fun e => h (e ▸ rfl)
    simp [Act.put, Array.getD_eq_getD_getElem?, Array.getElem?_setIfInBounds_ne hne]
theorem Act.getD_put_same (a : Act) (v : Value) {t : Nat} (ht : t < a.tmps.size) : (a.put (some t) v).tmps.getD t undef = v := by
  simp [Act.put, Array.getD_eq_getD_getElem?, ht]

/-- one place that is related stays related, or becomes so -/
theorem put_rel {ρ : Ren} {a : ActC} {a' : Act} (hs : a'.tmps.size = a.size) (hsm : a.size ≤ 2 ^ 20) {d : Option Tmp} {v v' : Value} {t : Nat}
    (h : d ≠ some t → VR P ρ (a.get t) (a'.tmps.getD t undef)) (h2 : d = some t → ¬ t < a.size → VR P ρ (a.get t) (a'.tmps.getD t undef))
    (hv : VR P ρ v v') : VR P ρ ((a.put d v).get t) ((a'.put d v').tmps.getD t undef) := by
  by_cases hd : d = some t
  · subst hd
    by_cases ht : t < a.size
    · rw [a.get_put_same v hsm ht, Act.getD_put_same a' v' (hs ▸ ht)]; exact hv
    · rw [a.put_out v ht]
      have : a'.put (some t) v' = a' := by
        have : ¬ t < a'.tmps.size := hs ▸ ht
        cases a'; simp only [Act.put]; congr 1
        simp only [Array.setIfInBounds]; rw [dif_neg this]
      rw [this]; exact h2 rfl ht
  · rw [a.get_put_ne d v hd, Act.getD_put_ne a' d v' hd]; exact h hd

theorem ActR.put {ρ : Ren} {a : ActC} {a' : Act} (h : ActR P ρ a a') (d : Option Tmp) {v v' : Value} (hv : VR P ρ v v') : ActR P ρ (a.put d v) (a'.put d v') where
  size := by rw [Act.put_size, ActC.put_size, h.size]
  small := by rw [ActC.put_size]; exact h.small
  at_ := fun t => put_rel h.size h.small (fun _ => h.at_ t) (fun _ _ => h.at_ t) hv
  defers := by rw [Act.put_defers', h.defers]

theorem eval_rel {ρ : Ren} {a : ActC} {a' : Act} {x : Operand} (h : ∀ t, x = .tmp t → VR P ρ (a.get t) (a'.tmps.getD t undef)) (hc : constOk x = true) : VR P ρ (a.eval x) (a'.eval x) := by
  cases x with
  | tmp t => exact h t rfl
  | const v => exact VR.of_free 100 v hc
  | global g => simp [constOk] at hc
  | func f => exact VRs.empty |> fun e => .func _ #[] #[] #[] #[] e.size e.size e.at_ e.at_

theorem yielded_eq {ρ : Ren} {ops : Array Oper} {a : ActC} {a' : Act} (hs : a'.tmps.size = a.size) {g : Nat}
    (h : ∀ d, (ops[g]?).bind (·.dst) = some d → VR P ρ (a.get d) (a'.tmps.getD d undef)) : yieldedC ops.toList a g = yielded ops a'.tmps g := by
  unfold yieldedC yielded
  rw [Array.getElem?_toList]
  cases hd : (ops[g]?).bind (·.dst) with
  | none => rfl
  | some d =>
    have hr := h d hd
    simp only [Option.bind_some]
    by_cases hlt : d < a.size
    · have hlt' : d < a'.tmps.size := hs ▸ hlt
      rw [if_pos (show Nat.blt d a.size = true from Nat.ble_eq_true_of_le hlt)]
      have e : a'.tmps[d]? = some (a'.tmps.getD d undef) := by simp [Array.getD_eq_getD_getElem?, hlt']
      rw [e]
      generalize a.get d = x at hr ⊢
      generalize a'.tmps.getD d undef = y at hr ⊢
      cases hr <;> rfl
    · rw [if_neg (show ¬ Nat.blt d a.size = true from fun h => hlt (Nat.le_of_ble_eq_true h))]
      have : a'.tmps[d]? = none := by rw [Array.getElem?_eq_none_iff, hs]; exact Nat.le_of_not_lt hlt
      rw [this]

theorem wanted_eq {ρ : Ren} {ops : Array Oper} {a : ActC} {a' : Act} {o : Oper} (hs : a'.tmps.size = a.size)
    (h : ∀ d, d ∈ o.looksAt ops → VR P ρ (a.get d) (a'.tmps.getD d undef)) : Region.wanted o (yieldedC ops.toList a) = Region.wanted o (yielded ops a'.tmps) := by
  unfold Region.wanted
  cases hg : o.guard with
  | none => rfl
  | some gw =>
    obtain ⟨g, want⟩ := gw
    simp only
    rw [yielded_eq hs fun d hd => h d (by simp [Oper.looksAt, hg, hd])]

theorem ble_and {a b c d : Nat} (h : (Nat.ble a b && Nat.ble c d) = true) : a ≤ b ∧ c ≤ d := by
  simp only [Bool.and_eq_true] at h
  exact ⟨Nat.le_of_ble_eq_true h.1, Nat.le_of_ble_eq_true h.2⟩

/-! ## Calls -/
def Free (ρ : Ren) (lo hi : Nat) : Prop := ∀ b, lo ≤ b → b < hi → ρ b = none

def CallSound (P : Program) (call : CallC) : Prop :=
  ∀ (f : FuncId) (args : Array Value) (s : St) (v : Value) (s1 : St), call f args s = some (v, s1) →
    ∀ (ρ : Ren) (args' : Array Value) (w : World) (N : Nat), VRs P ρ args args' → R P ρ s w → WF s → s1.next ≤ N → N ≤ lim → Free ρ s.next N →
      Calls P f args' w fun e w1 => ∃ v' ρ1, e = .returned v' ∧ Out P ρ s w ρ1 s1 w1 ∧ VR P ρ1 v v'

theorem Out.free {ρ : Ren} {s : St} {w : World} {ρ1 : Ren} {s1 : St} {w1 : World} (h : Out P ρ s w ρ1 s1 w1) {N : Nat} (hf : Free ρ s.next N) : Free ρ1 s1.next N := by
  intro b hb hN
  cases hr : ρ1 b with
  | none => rfl
  | some g =>
    have h0 : ρ b = none := hf b (Nat.le_trans h.next hb) hN
    have := (h.new b g hr h0).2.1
    omega

theorem wpOp_of {ext : FuncId → Option Ext} {call : CallC} (hz : Fine P) (hext : ExtOk P ext) (hcall : CallSound P call) {ops : Array Oper} {j : Nat} {o : Oper} (hj : ops[j]? = some o)
    {a : ActC} {a' : Act} {ρ : Ren} {s s1 : St} {w : World} {N : Nat}
    (hw : Region.wanted o (yielded ops a'.tmps) = true) (hev : EvR P ρ a.eval a'.eval o.op.operands.toList)
    {r : Next × St} (hop : opK P ext a.eval o s = some r) {a1 : ActC} (hup : upC call o a s r = some (a1, s1))
    (hR : R P ρ s w) (hwf : WF s) (hN : s1.next ≤ N) (hl : N ≤ lim) (hfree : Free ρ s.next N)
    {K : Act → World → Prop} {Q : Exit → Act → World → Prop}
    (hK : ∀ v v' w1 ρ1, a1 = a.put o.dst v → s.next ≤ s1.next → Out P ρ s w ρ1 s1 w1 → VR P ρ1 v v' → K (a'.put o.dst v') w1) : wpOp P ops Q j K a' w := by
  unfold wpOp
  simp only [hj, hw, if_true]
  refine .inl ?_
  unfold Oper.wp
  obtain ⟨x, t⟩ := r
  have hs := opC_sound hz.zf hext hev s w x t N (opK_ok hz.ng hop) hR hwf
  cases x with
  | value v =>
    simp only [upC] at hup
    split at hup
    · rename_i hn0
      have hn := Nat.le_of_ble_eq_true hn0
      cases hup
      obtain ⟨x', w1, ρ1, h1, h2, h3⟩ := hs hN hl hfree
      cases h3 with
      | value _ v' hv => rw [h1]; exact hK v v' w1 ρ1 rfl hn h2 hv
    · cases hup
  | skip =>
    simp only [upC] at hup
    split at hup
    · rename_i hn0
      have hn := Nat.le_of_ble_eq_true hn0
      cases hup
      obtain ⟨x', w1, ρ1, h1, h2, h3⟩ := hs hN hl hfree
      cases h3 with
      | skip => rw [h1]; exact hK undef undef w1 ρ1 rfl hn h2 vr_undef
    · cases hup
  | enter f args =>
    simp only [upC] at hup
    cases hc : call f args t with
    | none => rw [hc] at hup; cases hup
    | some p =>
      obtain ⟨v, s'⟩ := p
      rw [hc] at hup
      simp only at hup
      split at hup
      · rename_i hn0
        have hn := ble_and hn0
        cases hup
        obtain ⟨x', w1, ρ1, h1, h2, h3⟩ := hs (Nat.le_trans hn.2 hN) hl hfree
        cases h3 with
        | enter _ _ args' ha =>
          rw [h1]
          refine Calls.mono (hcall f args t v s1 hc ρ1 args' w1 N ha h2.r h2.wf hN hl (h2.free hfree)) ?_
          rintro e w2 ⟨v', ρ2, rfl, h4, h5⟩
          exact hK v v' w2 ρ2 rfl (Nat.le_trans hn.1 hn.2) (h2.trans h4 fun b hb hb' => hfree b hb (by omega)) h5
      · cases hup
  | _ => simp [upC] at hup

theorem wpOp_float {ext : FuncId → Option Ext} (hz : Fine P) (hext : ExtOk P ext) {ops : Array Oper} {j : Nat} {o : Oper} (hj : ops[j]? = some o)
    {a : ActC} {a' : Act} {ρ : Ren} {s s1 : St} {w : World} {N : Nat}
    (hw : Region.wanted o (yielded ops a'.tmps) = true) (hev : EvR P ρ a.eval a'.eval o.op.operands.toList)
    {v : Value} (hop : opK P ext a.eval o s = some (.value v, s1))
    (hR : R P ρ s w) (hwf : WF s) (hN : s1.next ≤ N) (hl : N ≤ lim) (hfree : Free ρ s.next N)
    {K : Act → World → Prop} {Q : Exit → Act → World → Prop}
    (hK : ∀ v' w1 ρ1, Out P ρ s w ρ1 s1 w1 → VR P ρ1 v v' → K (a'.put o.dst v') w1) : wpOp P ops Q j K a' w := by
  unfold wpOp
  simp only [hj, hw, if_true]
  refine .inl ?_
  unfold Oper.wp
  obtain ⟨x', w1, ρ1, h1, h2, h3⟩ := opC_sound hz.zf hext hev s w _ s1 N (opK_ok hz.ng hop) hR hwf hN hl hfree
  cases h3 with
  | value _ v' hv => rw [h1]; exact hK v' w1 ρ1 h2 hv

theorem upC_next {call : CallC} {o : Oper} {a a1 : ActC} {s s1 : St} {r : Next × St} (h : upC call o a s r = some (a1, s1)) : s.next ≤ s1.next := by
  obtain ⟨x, t⟩ := r
  cases x with
  | value v => simp only [upC] at h; split at h <;> cases h; exact Nat.le_of_ble_eq_true ‹_›
  | skip => simp only [upC] at h; split at h <;> cases h; exact Nat.le_of_ble_eq_true ‹_›
  | enter f args =>
    simp only [upC] at h
    split at h
    · split at h
      · rename_i hn0; cases h; have hn := ble_and hn0; exact Nat.le_trans hn.1 hn.2
      · cases h
    · cases h
  | _ => simp [upC] at h

theorem stepC_next {ext : FuncId → Option Ext} {call : CallC} {ops : List Oper} {o : Oper} {a a1 : ActC} {s s1 : St} (h : stepC P ext call ops o a s = some (a1, s1)) : s.next ≤ s1.next := by
  simp only [stepC] at h
  split at h
  · split at h
    · split at h
      · cases h
      · exact upC_next h
    · cases h
  · cases h; exact Nat.le_refl _

theorem opsC_next {ext : FuncId → Option Ext} {call : CallC} {ops : List Oper} : ∀ (rest : List Oper) (a : ActC) (s : St) (a1 : ActC) (s1 : St), opsC P ext call ops rest a s = some (a1, s1) → s.next ≤ s1.next := by
  intro rest
  induction rest with
  | nil => intro a s a1 s1 h; rw [opsC_nil] at h; cases h; exact Nat.le_refl _
  | cons o rest ih =>
    intro a s a1 s1 h
    rw [opsC_cons] at h
    split at h
    · cases h
    · rename_i a2 s2 hst
      exact Nat.le_trans (stepC_next hst) (ih _ _ _ _ h)

/-! ## A region in the order of its text -/
theorem mem_looks {o : Oper} {ops : Array Oper} {t : Tmp} (h : Operand.tmp t ∈ o.op.operands.toList) : t ∈ o.looksAt ops :=
  List.mem_append_left _ (List.mem_filterMap.2 ⟨.tmp t, h, rfl⟩)

theorem evR_of {ρ : Ren} {ops : Array Oper} {a : ActC} {a' : Act} {o : Oper} (h : ∀ d, d ∈ o.looksAt ops → VR P ρ (a.get d) (a'.tmps.getD d undef))
    (hc : o.op.operands.toList.all constOk = true) : EvR P ρ a.eval a'.eval o.op.operands.toList := fun x hx =>
  eval_rel (fun t ht => h t (mem_looks (ht ▸ hx))) (List.all_eq_true.1 hc x hx)

theorem opsC_sound {ext : FuncId → Option Ext} {call : CallC} (hz : Fine P) (hext : ExtOk P ext) (hcall : CallSound P call) {ops : Array Oper} {Q : Exit → Act → World → Prop} :
    ∀ (rest : List Oper) (i : Nat), (∀ k o, rest[k]? = some o → ops[i + k]? = some o) →
    ∀ (a : ActC) (s : St) (a1 : ActC) (s1 : St) (a' : Act) (ρ : Ren) (w : World) (N : Nat), opsC P ext call ops.toList rest a s = some (a1, s1) →
      ActR P ρ a a' → R P ρ s w → WF s → s1.next ≤ N → N ≤ lim → Free ρ s.next N →
      (∀ a1' w1 ρ1, Out P ρ s w ρ1 s1 w1 → ActR P ρ1 a1 a1' → Q .normal a1' w1) → wpOps P ops Q ((List.range rest.length).map (i + ·)) a' w ∧ s.next ≤ s1.next := by
  intro rest
  induction rest with
  | nil =>
    intro i _ a s a1 s1 a' ρ w N h ha hR hwf _ _ _ hQ
    rw [opsC_nil] at h; cases h
    exact ⟨hQ a' w ρ (.refl hR hwf) ha, Nat.le_refl _⟩
  | cons o rest ih =>
    intro i hi a s a1 s1 a' ρ w N h ha hR hwf hN hl hfree hQ
    rw [opsC_cons] at h
    have hil : ((List.range (o :: rest).length).map (i + ·)) = i :: ((List.range rest.length).map (i + 1 + ·)) := by
      simp only [List.length_cons, List.range_succ_eq_map, List.map_cons, Nat.add_zero, List.map_map]
      congr 1
      exact List.map_congr_left fun x _ => by simp only [Function.comp]; omega
    rw [hil, wpOps_cons]
    have ho : ops[i]? = some o := hi 0 o rfl
    have hi' : ∀ k o', rest[k]? = some o' → ops[i + 1 + k]? = some o' := fun k o' hk => by
      have := hi (k + 1) o' (by simpa using hk)
      rw [show i + 1 + k = i + (k + 1) by omega]; exact this
    have hlook : ∀ d, d ∈ o.looksAt ops → VR P ρ (a.get d) (a'.tmps.getD d undef) := fun d _ => ha.at_ d
    have hwe := wanted_eq (P := P) (ρ := ρ) ha.size hlook
    cases hst : stepC P ext call ops.toList o a s with
    | none => rw [hst] at h; cases h
    | some p =>
      obtain ⟨a2, s2⟩ := p
      rw [hst] at h
      simp only at h
      simp only [stepC] at hst
      split at hst
      · rename_i hwant
        split at hst
        · rename_i hcst
          cases hop : opK P ext a.eval o s with
          | none => rw [hop] at hst; cases hst
          | some r =>
            rw [hop] at hst
            simp only at hst
            have hev := evR_of hlook hcst
            -- the names that the rest needs
            have hmono : s2.next ≤ s1.next := by
              clear hQ ih hil hi hi' ho hlook hwe hev hop hst hwant hcst
              exact opsC_next rest _ _ _ _ h
            have hs2 : s.next ≤ s2.next := upC_next hst
            refine ⟨?_, Nat.le_trans hs2 hmono⟩
            refine wpOp_of hz hext hcall ho (hwe ▸ hwant) hev hop hst hR hwf (Nat.le_trans hmono hN) hl hfree ?_
            intro v v' w1 ρ1 he _ hout hv
            have hA : ActR P ρ1 a2 (a'.put o.dst v') := he ▸ (ha.mono hout.le).put o.dst hv
            refine (ih (i + 1) hi' a2 s2 a1 s1 _ ρ1 w1 N h hA hout.r hout.wf hN hl (hout.free hfree) ?_).1
            intro a1' w2 ρ2 hout2 hA2
            exact hQ a1' w2 ρ2 (hout.trans hout2 fun b hb hb' => hfree b hb (by omega)) hA2
        · cases hst
      · rename_i hwant
        cases hst
        have hwant' : ¬ Region.wanted o (yielded ops a'.tmps) = true := hwe ▸ hwant
        have := ih (i + 1) hi' _ _ a1 s1 (a'.put o.dst undef) ρ w N h (ha.put o.dst vr_undef) hR hwf hN hl hfree hQ
        refine ⟨?_, this.2⟩
        unfold wpOp
        simp only [ho, hwant']
        exact this.1

end Go.Am

namespace Go.Am
variable {P : Program}

/-! ## What must come before -/
theorem orAll_bit {acc : List Nat} {k : Nat} : ∀ (es : List Nat), (orAll acc es).testBit k = true → ∃ e ∈ es, k = e ∨ (acc.getD e 0).testBit k = true := by
  intro es
  induction es with
  | nil => intro h; simp [orAll] at h
  | cons e es ih =>
    intro h
    simp only [orAll, Nat.testBit_or, Bool.or_eq_true, Nat.testBit_two_pow, decide_eq_true_eq] at h
    rcases h with (h | h) | h
    · exact ⟨e, List.mem_cons_self, .inl h.symm⟩
    · exact ⟨e, List.mem_cons_self, .inr h⟩
    · obtain ⟨e', h1, h2⟩ := ih h
      exact ⟨e', List.mem_cons_of_mem _ h1, h2⟩

theorem befores_old : ∀ (ops : List Oper) (acc : List Nat) (i : Nat), i < acc.length → (befores acc ops).getD i 0 = acc.getD i 0 := by
  intro ops
  induction ops with
  | nil => intro acc i _; rfl
  | cons o rest ih =>
    intro acc i hi
    simp only [befores]
    rw [ih _ i (by simp; omega)]
    simp [List.getD_eq_getElem?_getD, List.getElem?_append_left hi]

theorem befores_bit' : ∀ (ops : List Oper) (acc : List Nat) (i k : Nat), acc.length ≤ i → ((befores acc ops).getD i 0).testBit k = true →
    ∃ o, ops[i - acc.length]? = some o ∧ ∃ e ∈ edges o, k = e ∨ ((befores acc ops).getD e 0).testBit k = true := by
  intro ops
  induction ops with
  | nil =>
    intro acc i k hi h
    simp [befores, List.getD_eq_getElem?_getD, List.getElem?_eq_none hi] at h
  | cons o rest ih =>
    intro acc i k hi h
    by_cases he : i = acc.length
    · subst he
      refine ⟨o, by simp, ?_⟩
      simp only [befores] at h ⊢
      rw [befores_old rest _ acc.length (by simp)] at h
      have hx : (acc ++ [orAll acc (edges o)]).getD acc.length 0 = orAll acc (edges o) := by simp [List.getD_eq_getElem?_getD]
      rw [hx] at h
      obtain ⟨e, h1, h2⟩ := orAll_bit _ h
      refine ⟨e, h1, ?_⟩
      rcases h2 with h2 | h2
      · exact .inl h2
      · refine .inr ?_
        have hlt : e < acc.length := by
          rcases Nat.lt_or_ge e acc.length with hl | hl
          · exact hl
          · simp [List.getD_eq_getElem?_getD, List.getElem?_eq_none hl] at h2
        rw [befores_old rest _ e (by simp; omega)]
        simpa [List.getD_eq_getElem?_getD, List.getElem?_append_left hlt] using h2
    · have hi' : acc.length + 1 ≤ i := by omega
      simp only [befores] at h ⊢
      obtain ⟨o', h1, h2⟩ := ih (acc ++ [orAll acc (edges o)]) i k (by simp; omega) h
      refine ⟨o', ?_, h2⟩
      have : i - acc.length = (i - (acc ++ [orAll acc (edges o)]).length) + 1 := by simp; omega
      rw [this, List.getElem?_cons_succ]
      exact h1

theorem befores_bit {ops : List Oper} {i k : Nat} (h : ((befores [] ops).getD i 0).testBit k = true) :
    ∃ o, ops[i]? = some o ∧ ∃ e ∈ edges o, k = e ∨ ((befores [] ops).getD e 0).testBit k = true := by
  have := befores_bit' ops [] i k (Nat.zero_le _) h
  simpa using this

/-! ## Equal objects -/
theorem eqV_eq {x y : Value} (h : eqV x y = true) : x = y := by
  unfold eqV at h
  split at h
  all_goals first
    | rfl
    | (simp only [Bool.and_eq_true, beq_iff_eq] at h; simp_all; done)
    | (rw [(ba_beq _ _).1 h]; done)
    | skip
  · rename_i t x u y
    split at h
    · rename_i a b hx hy
      simp only [Bool.and_eq_true, beq_iff_eq] at h
      obtain ⟨rfl, rfl⟩ := h
      have hx' : x = #[.pointer a] := Array.toList_inj.1 hx
      have hy' : y = #[.pointer a] := Array.toList_inj.1 hy
      rw [hx', hy']
    · cases h
  all_goals cases h

theorem eqVs_eq : ∀ {x y : List Value}, eqVs x y = true → x = y
  | [], [], _ => rfl
  | x :: xs, y :: ys, h => by
    simp only [eqVs, Bool.and_eq_true] at h
    rw [eqV_eq h.1, eqVs_eq h.2]
  | [], _ :: _, h => by simp [eqVs] at h
  | _ :: _, [], h => by simp [eqVs] at h

theorem eqEs_eq : ∀ {x y : List MapEntry}, eqEs x y = true → x = y
  | [], [], _ => rfl
  | x :: xs, y :: ys, h => by
    simp only [eqEs, Bool.and_eq_true, beq_iff_eq] at h
    obtain ⟨⟨⟨h1, h2⟩, h3⟩, h4⟩ := h
    have := eqV_eq h1; have := eqV_eq h2
    obtain ⟨k, v, b⟩ := x; obtain ⟨k', v', b'⟩ := y
    simp only at *
    subst k'; subst v'; subst b'
    rw [eqEs_eq h4]
  | [], _ :: _, h => by simp [eqEs] at h
  | _ :: _, [], h => by simp [eqEs] at h

theorem sameObj_eq {s s' : St} {b : Nat} (h : sameObj s s' b = true) : s.get b = s'.get b := by
  unfold sameObj at h
  split at h
  · rename_i c e f c' e' f' h1 h2
    simp only [Bool.and_eq_true, beq_iff_eq] at h
    obtain ⟨⟨rfl, rfl⟩, h3⟩ := h
    rw [h1, h2, Array.toList_inj.1 (eqVs_eq h3)]
  · rename_i es k es' k' h1 h2
    simp only [Bool.and_eq_true, beq_iff_eq] at h
    obtain ⟨rfl, h3⟩ := h
    rw [h1, h2, Array.toList_inj.1 (eqEs_eq h3)]
  · cases h

/-! ## A small memory within a larger one -/
theorem RH.merge {ρ ρ1 : Ren} {h h1 : Nat → Option Obj} {w w1 : World} {T T1 : St} (hr : RH P ρ h w) (hsub : ∀ b o, T.get b = some o → h b = some o)
    (hout : Out P ρ T w ρ1 T1 w1) (hfree : Free ρ T.next T1.next)
    (hnew : ∀ b o, h1 b = some o → T1.get b = some o ∨ (T.get b = none ∧ h b = some o ∧ (b < T.next ∨ T1.next ≤ b))) : RH P ρ1 h1 w1 := by
  -- a name of the second kind was there
  have was : ∀ b g, ρ1 b = some g → (b < T.next ∨ T1.next ≤ b) → ρ b = some g := by
    intro b g hg hb
    cases h0 : ρ b with
    | none => have := hout.new b g hg h0; omega
    | some g0 => rw [hout.le b g0 h0] at hg; exact hg
  have notIm : ∀ b g o, ρ b = some g → h b = some o → isDead o = false → T.get b = none → ¬ Im ρ T g.blk := by
    rintro b g o hg hb ho hT ⟨b', g', o', h1', h2', h3', h4'⟩
    have := hr.inj b b' g g' o o' hg h1' hb (hsub _ _ h3') ho h4' h2'.symm
    subst this
    rw [hT] at h3'; cases h3'
  refine ⟨hout.r.lt, ?_, ?_⟩
  · have mixed : ∀ b b' g g' o o', ρ1 b = some g → ρ1 b' = some g' → T1.get b = some o → isDead o = false →
        (T.get b' = none ∧ h b' = some o' ∧ (b' < T.next ∨ T1.next ≤ b')) → isDead o' = false → g.blk = g'.blk → b = b' := by
      intro b b' g g' o o' hg hg' hT1 ho ⟨hTn, hb', hlt⟩ ho' he
      have h0' := was b' g' hg' hlt
      cases h0 : ρ b with
      | some g0 =>
        have e : g0 = g := Option.some.inj ((hout.le b g0 h0).symm.trans hg)
        subst e
        have hbl : b < T.next := by
          rcases Nat.lt_or_ge b T.next with hl | hl
          · exact hl
          · rw [hfree b hl (hout.wf.lt hT1)] at h0; cases h0
        obtain ⟨o2, h2, h3⟩ := hout.old b o hbl hT1 ho
        exact hr.inj b b' g0 g' o2 o' h0 h0' (hsub _ _ h2) hb' h3 ho' he
      | none =>
        obtain ⟨_, _, h5⟩ := hout.new b g hg h0
        rcases h5 with h5 | h5
        · have := hr.lt b' g' h0'; omega
        · exact absurd (he ▸ h5) (notIm b' g' o' h0' hb' ho' hTn)
    intro b b' g g' o o' hg hg' hb hb' ho ho' he
    rcases hnew b o hb with h2 | h2
    · rcases hnew b' o' hb' with h3 | h3
      · exact hout.r.inj b b' g g' o o' hg hg' h2 h3 ho ho' he
      · exact mixed b b' g g' o o' hg hg' h2 ho h3 ho' he
    · rcases hnew b' o' hb' with h3 | h3
      · exact (mixed b' b g' g o' o hg' hg h3 ho' h2 ho he.symm).symm
      · exact hr.inj b b' g g' o o' (was b g hg h2.2.2) (was b' g' hg' h3.2.2) h2.2.1 h3.2.1 ho ho' he
  · intro b g o hg hb
    rcases hnew b o hb with h2 | ⟨h2, h3, h4⟩
    · exact hout.r.obj b g o hg h2
    · have h0 := was b g hg h4
      cases hd : isDead o with
      | true => exact OR.of_dead hd
      | false =>
        have := (hr.obj b g o h0 h3).mono hout.le
        rw [hout.frame g.blk (hr.lt b g h0) (notIm b g o h0 h3 hd h2)]
        exact this

/-! ## Memory at a time: what is there, and what later operations will add -/
noncomputable def look (st : Nat → St) : Nat → Nat → Nat → Option Obj
  | 0, j, b => if b < (st j).next then (st j).get b else none
  | f + 1, j, b => if b < (st j).next then (st j).get b else look st f (j + 1) b

def Quiet (st : Nat → St) (k : Nat) : Prop := st (k + 1) = st k ∨ ∃ ob, st (k + 1) = (st k).push ob

section
variable {st : Nat → St} {n : Nat}
noncomputable abbrev lookAt (st : Nat → St) (n j : Nat) : Nat → Option Obj := look st (n - j) j

theorem lookAt_lt {j b : Nat} (h : b < (st j).next) : lookAt st n j b = (st j).get b := by
  unfold lookAt
  cases n - j <;> simp [look, h]
theorem lookAt_ge {j b : Nat} (hj : j < n) (h : (st j).next ≤ b) : lookAt st n j b = lookAt st n (j + 1) b := by
  unfold lookAt
  obtain ⟨f, hf⟩ : ∃ f, n - j = f + 1 := ⟨n - j - 1, by omega⟩
  have hf' : n - (j + 1) = f := by omega
  rw [hf, hf']
  simp only [look, if_neg (Nat.not_lt.2 h)]

theorem Quiet.get {k b : Nat} (h : Quiet st k) (hb : b < (st k).next) : (st (k + 1)).get b = (st k).get b := by
  rcases h with h | ⟨ob, h⟩
  · rw [h]
  · rw [h]; exact St.get_push_ne ob (by omega)
theorem Quiet.next {k : Nat} (h : Quiet st k) : (st k).next ≤ (st (k + 1)).next := by
  rcases h with h | ⟨ob, h⟩ <;> rw [h]
  · exact Nat.le_refl _
  · exact Nat.le_succ _
theorem Quiet.wf {k : Nat} (h : Quiet st k) (hw : WF (st k)) (hl : (st (k + 1)).next ≤ lim) : WF (st (k + 1)) := by
  rcases h with h | ⟨ob, h⟩
  · rw [h]; exact hw
  · rw [h] at hl ⊢; exact hw.push hl ob
theorem Quiet.look {k : Nat} (h : Quiet st k) (hk : k < n) : lookAt st n k = lookAt st n (k + 1) := by
  funext b
  rcases Nat.lt_or_ge b (st k).next with hb | hb
  · rw [lookAt_lt hb, lookAt_lt (Nat.lt_of_lt_of_le hb h.next), h.get hb]
  · exact lookAt_ge hk hb

theorem quiet_look {i j : Nat} (hij : i ≤ j) (hj : j ≤ n) (h : ∀ k, i ≤ k → k < j → Quiet st k) : lookAt st n i = lookAt st n j := by
  induction j with
  | zero => have : i = 0 := by omega
            subst this; rfl
  | succ j ih =>
    rcases Nat.lt_or_ge i (j + 1) with hlt | hge
    · rw [ih (by omega) (by omega) fun k h1 h2 => h k h1 (by omega)]
      exact (h j (by omega) (by omega)).look (by omega)
    · have : i = j + 1 := by omega
      subst this; rfl
theorem quiet_wf {i j : Nat} (hij : i ≤ j) (hj : j ≤ n) (hl : ∀ k, k ≤ n → (st k).next ≤ lim) (h : ∀ k, i ≤ k → k < j → Quiet st k) (hw : WF (st i)) : WF (st j) := by
  induction j with
  | zero => have : i = 0 := by omega
            subst this; exact hw
  | succ j ih =>
    rcases Nat.lt_or_ge i (j + 1) with hlt | hge
    · exact (h j (by omega) (by omega)).wf (ih (by omega) (by omega) fun k h1 h2 => h k h1 (by omega)) (hl _ hj)
    · have : i = j + 1 := by omega
      subst this; exact hw

/-- an object that nothing between touches is seen as it is at 'i': forwards -/
theorem keep_up {i j b : Nat} (hij : i ≤ j) (hb : b < (st i).next) (hmono : ∀ k, k < j → (st k).next ≤ (st (k + 1)).next)
    (h : ∀ k, i ≤ k → k < j → Quiet st k ∨ (st k).get b = (st (k + 1)).get b) : (st j).get b = (st i).get b ∧ b < (st j).next := by
  induction j with
  | zero => have : i = 0 := by omega
            subst this; exact ⟨rfl, hb⟩
  | succ j ih =>
    rcases Nat.lt_or_ge i (j + 1) with hlt | hge
    · obtain ⟨h1, h2⟩ := ih (by omega) (fun k hk => hmono k (by omega)) fun k h1 h2 => h k h1 (by omega)
      refine ⟨?_, Nat.lt_of_lt_of_le h2 (hmono j (by omega))⟩
      rcases h j (by omega) (by omega) with h3 | h3
      · rw [h3.get h2, h1]
      · rw [← h3, h1]
    · have : i = j + 1 := by omega
      subst this; exact ⟨rfl, hb⟩

/-- the same, backwards -/
theorem keep_down {i b : Nat} (hi : i ≤ n) (hb : b < (st i).next) (hmono : ∀ k, k < n → (st k).next ≤ (st (k + 1)).next) : ∀ (d j : Nat), j + d = i →
    (∀ k, j ≤ k → k < i → Quiet st k ∨ (b < (st (k + 1)).next → b < (st k).next ∧ (st k).get b = (st (k + 1)).get b)) → lookAt st n j b = (st i).get b := by
  intro d
  induction d with
  | zero => intro j hj _; have : j = i := by omega
            subst this; exact lookAt_lt hb
  | succ d ih =>
    intro j hj h
    have h1 := ih (j + 1) (by omega) fun k h1 h2 => h k (by omega) h2
    rw [← h1]
    rcases h j (Nat.le_refl _) (by omega) with h2 | h2
    · rw [h2.look (by omega)]
    · rcases Nat.lt_or_ge b (st (j + 1)).next with h3 | h3
      · obtain ⟨h4, h5⟩ := h2 h3
        rw [lookAt_lt h4, lookAt_lt h3, h5]
      · exact lookAt_ge (by omega) (Nat.le_trans (hmono j (by omega)) h3)
end

/-! ## Operations that only read leave all as it is -/
def Ro (P : Program) {α : Type} (S : Sem α) : Prop := ∀ s x s1, runC P S s = some (x, s1) → s1 = s
theorem Ro.pure {α : Type} (x : α) : Ro P (Pure.pure x : Sem α) := fun s y s1 h => by simp only [Pure.pure, runC] at h; cases h; rfl
theorem Ro.bind {α β : Type} {S : Sem α} {k : α → Sem β} (h : Ro P S) (hk : ∀ x, Ro P (k x)) : Ro P (S >>= k) := by
  intro s x s1 hr
  rw [runC_bind] at hr
  cases h0 : runC P S s with
  | none => rw [h0] at hr; cases hr
  | some p =>
    obtain ⟨y, s'⟩ := p
    rw [h0] at hr
    have e := h s y s' h0
    subst e
    exact hk y _ x s1 hr
theorem Ro.load (a : Addr) (m : Mode) : Ro P (Go.load a m) := by
  intro s x s1 h
  unfold Go.load at h
  simp only [runC] at h
  split at h
  · cases h; rfl
  · cases h
theorem Ro.halt {α : Type} (h : Halt) : Ro P (Sem.halt h : Sem α) := fun s x s1 h => by simp [runC] at h
theorem Ro.program {α : Type} {k : Program → Sem α} (h : Ro P (k P)) : Ro P (Sem.program k) := fun s x s1 hr => by simp only [runC] at hr; exact h s x s1 hr

end Go.Am

namespace Go.Am
variable {P : Program}

theorem Ro.stuck {α : Type} (m : String) : Ro P (Go.stuck m : Sem α) := Ro.halt _
theorem Ro.und (t : TypeId) : Ro P (underlying t) := by
  unfold underlying
  refine Ro.bind (Ro.program (Ro.pure _)) fun p => ?_
  split
  · exact Ro.pure _
  · exact Ro.stuck _
theorem Ro.size (t : TypeId) : Ro P (sizeOf t) := by
  unfold sizeOf
  refine Ro.bind ?_ fun _ => Ro.pure _
  unfold typeInfo
  refine Ro.bind (Ro.program (Ro.pure _)) fun p => ?_
  split
  · exact Ro.pure _
  · exact Ro.stuck _
theorem Ro.cells (a : Addr) : ∀ (n i : Nat) (acc : Array Value), Ro P (loadCellsFrom a i n acc)
  | 0, _, _ => Ro.pure _
  | n + 1, i, acc => by
    unfold loadCellsFrom
    exact Ro.bind (Ro.load _ _) fun _ => Ro.cells a n _ _
theorem Ro.var (t : TypeId) (a : Addr) : Ro P (loadVar t a) := by
  unfold loadVar
  refine Ro.bind ?_ fun b => ?_
  · unfold isAgg
    refine Ro.bind (Ro.und t) fun d => ?_
    split <;> exact Ro.pure _
  · split
    · exact Ro.bind (Ro.size t) fun n => Ro.bind (Ro.cells _ _ _ _) fun _ => Ro.pure _
    · exact Ro.load _ _
theorem Ro.at (t : TypeId) (v : Value) : Ro P (Instr.loadAt t v) := by
  unfold Instr.loadAt
  refine Ro.bind ?_ fun a => Ro.var t a
  unfold Instr.sureAddr
  split
  · exact Ro.pure _
  · exact Ro.stuck _

theorem map_snd {x : Option Value} {s : St} {r : Next} {s1 : St} (h : x.map (fun v => (Next.value v, s)) = some (r, s1)) : s1 = s := by
  cases x with
  | none => cases h
  | some a => simp only [Option.map_some, Option.some.injEq, Prod.mk.injEq] at h; exact h.2.symm

theorem load_same {ext : FuncId → Option Ext} {ev : Operand → Value} {o : Oper} {s : St} {r : Next} {s1 : St} (hc : cls P o.op = .load) (h : opC P ext ev o s = some (r, s1)) : s1 = s := by
  obtain ⟨dst, op, type, pos, after, guard⟩ := o
  cases op with
  | load t a =>
    simp only [opC] at h
    exact (Ro.bind (Ro.at t (ev a)) fun _ => Ro.pure _) s r s1 h
  | lookup t m i ok => simp only [opC] at h; exact map_snd h
  | slice t x lo hi mx =>
    simp only [opC] at h
    split at h
    · split at h
      · exact map_snd h
      · cases h
    · exact map_snd h
    · cases h
  | convert src dst' x =>
    simp only [opC] at h
    simp only [cls] at hc
    split at h
    · rename_i h1 h2 h3
      rw [h1, h2] at hc; cases hc
    · split at h
      · exact map_snd h
      · cases h
    · exact map_snd h
    · exact map_snd h
    · cases h
  | call c =>
    obtain ⟨callee, args, ats⟩ := c
    cases callee with
    | builtin b =>
      cases b <;> simp only [cls] at hc <;> (try cases hc) <;> (simp only [opC] at h; exact map_snd h)
    | value f => simp [cls] at hc
    | invoke r n => simp [cls] at hc
  | makeMap t r => cases r <;> simp [cls] at hc
  | _ => simp [cls] at hc

/-! ## A region whose operations may go in any order -/
def pairP (P : Program) (st : Nat → St) (ac : Nat → ActC) (x : Oper) (i j : Nat) : Prop :=
  match cls P x.op with
  | .load => match readsC (ac i).eval x.op with
    | some none => True
    | some (some a) => a.block < (st i).next ∧ (a.block < (st (j + 1)).next → a.block < (st j).next ∧ (st j).get a.block = (st (j + 1)).get a.block)
    | none => False
  | .alloc => j < i ∨ (st (i + 1)).next = (st i).next ∨ (st j).get (st i).next = (st (j + 1)).get (st i).next
  | _ => True

structure Reg (P : Program) (ext : FuncId → Option Ext) (call : CallC) (ops : Array Oper) (bs : List Nat) (st : Nat → St) (ac : Nat → ActC) : Prop where
  step : ∀ i o, ops[i]? = some o → stepD P ext call ops.toList o (ac i) (st i) = some (ac (i + 1), st (i + 1))
  bit : ∀ i k, (bs.getD i 0).testBit k = true → ∃ o, ops[i]? = some o ∧ ∃ e ∈ edges o, k = e ∨ (bs.getD e 0).testBit k = true
  edge : ∀ i x, ops[i]? = some x → ∀ e ∈ edges x, e < i
  ord : ∀ i j x y, ops[i]? = some x → ops[j]? = some y → j < i → unord bs i j = true → Oper.apart ops y x = true ∧ (isHeld P x && isHeld P y) = false
  rows : ∀ i j x y, ops[i]? = some x → ops[j]? = some y → isHeld P x = false → cls P x.op ≠ .pure → Region.wanted x (yieldedC ops.toList (ac i)) = true → isHeld P y = true →
    unord bs i j = true → pairP P st ac x i j

section
variable {ext : FuncId → Option Ext} {call : CallC} {ops : Array Oper} {bs : List Nat} {st : Nat → St} {ac : Nat → ActC}

abbrev Bf (bs : List Nat) (k i : Nat) : Prop := (bs.getD i 0).testBit k = true

theorem Reg.lt (R : Reg P ext call ops bs st ac) : ∀ i k, Bf bs k i → k < i := by
  intro i
  induction i using Nat.strongRecOn with
  | _ i ih =>
    intro k h
    obtain ⟨o, ho, e, he, h1⟩ := R.bit i k h
    have hei := R.edge i o ho e he
    rcases h1 with h1 | h1
    · omega
    · have := ih e hei k h1; omega

theorem unord_of {i j : Nat} (h1 : ¬ Bf bs i j) (h2 : ¬ Bf bs j i) : unord bs i j = true := by
  unfold unord
  simp only [Bf, Bool.not_eq_true] at h1 h2
  rw [h1, h2]; rfl
theorem unord_comm {i j : Nat} : unord bs i j = unord bs j i := by
  unfold unord; rw [Bool.and_comm]

theorem float_quiet {o : Oper} {i : Nat} (hst : stepD P ext call ops.toList o (ac i) (st i) = some (ac (i + 1), st (i + 1))) (hh : isHeld P o = false ∨ Region.wanted o (yieldedC ops.toList (ac i)) = false) : Quiet st i := by
  simp only [stepD] at hst
  split at hst
  · rename_i hw
    have hh' : isHeld P o = false := by
      rcases hh with h | h
      · exact h
      · rw [h] at hw; cases hw
    split at hst
    · split at hst
      · cases hst
      · have hcl : ¬ cls P o.op = .held := by
          intro e; simp [isHeld, e] at hh'
        rw [if_neg hcl] at hst
        rename_i r _
        obtain ⟨x, t⟩ := r
        cases x with
        | value v =>
          simp only at hst
          cases hm : mergeC (cls P o.op) (st i) t with
          | none => rw [hm] at hst; cases hst
          | some s' =>
            rw [hm] at hst
            simp only [Option.map_some, Option.some.injEq, Prod.mk.injEq] at hst
            obtain ⟨_, rfl⟩ := hst
            unfold mergeC at hm
            split at hm
            · exact .inl (Option.some.inj hm).symm
            · split at hm
              · cases hg : t.get (st i).next with
                | none => rw [hg] at hm; cases hm
                | some ob => rw [hg] at hm; exact .inr ⟨ob, (Option.some.inj hm).symm⟩
              · cases hm
        | _ => simp at hst
    · cases hst
  · simp only [Option.some.injEq, Prod.mk.injEq] at hst
    exact .inl hst.2.symm

theorem Reg.mono (R : Reg P ext call ops bs st ac) {i : Nat} (hi : i < ops.size) : (st i).next ≤ (st (i + 1)).next := by
  have ho : ops[i]? = some ops[i] := by simp [hi]
  have hst := R.step i _ ho
  by_cases hq : isHeld P ops[i] = false ∨ Region.wanted ops[i] (yieldedC ops.toList (ac i)) = false
  · exact (float_quiet hst hq).next
  · have h1 : isHeld P ops[i] = true := by
      cases h : isHeld P ops[i] with
      | true => rfl
      | false => exact absurd (.inl h) hq
    have h2 : Region.wanted ops[i] (yieldedC ops.toList (ac i)) = true := by
      cases h : Region.wanted ops[i] (yieldedC ops.toList (ac i)) with
      | true => rfl
      | false => exact absurd (.inr h) hq
    simp only [stepD, h2, if_true] at hst
    have hcl : cls P ops[i].op = .held := by simpa [isHeld] using h1
    split at hst
    · split at hst
      · cases hst
      · exact upC_next hst
    · cases hst

theorem Reg.mono' (R : Reg P ext call ops bs st ac) {i : Nat} : ∀ {j : Nat}, i ≤ j → j ≤ ops.size → (st i).next ≤ (st j).next := by
  intro j hij hj
  induction j with
  | zero => have : i = 0 := by omega
            subst this; exact Nat.le_refl _
  | succ j ih =>
    rcases Nat.lt_or_ge i (j + 1) with h | h
    · exact Nat.le_trans (ih (by omega) (by omega)) (R.mono (by omega))
    · have : i = j + 1 := by omega
      subst this; exact Nat.le_refl _

/-- each step writes only its own place -/
theorem step_put {o : Oper} {i : Nat} (hst : stepD P ext call ops.toList o (ac i) (st i) = some (ac (i + 1), st (i + 1))) : ∃ v, ac (i + 1) = (ac i).put o.dst v := by
  simp only [stepD] at hst
  split at hst
  · split at hst
    · split at hst
      · cases hst
      · split at hst
        · rename_i r _ _
          obtain ⟨x, t⟩ := r
          cases x with
          | value v =>
            simp only [upC] at hst
            split at hst
            · simp only [Option.some.injEq, Prod.mk.injEq] at hst; exact ⟨v, hst.1.symm⟩
            · cases hst
          | skip =>
            simp only [upC] at hst
            split at hst
            · simp only [Option.some.injEq, Prod.mk.injEq] at hst; exact ⟨undef, hst.1.symm⟩
            · cases hst
          | enter f args =>
            simp only [upC] at hst
            split at hst
            · split at hst
              · simp only [Option.some.injEq, Prod.mk.injEq] at hst; exact ⟨_, hst.1.symm⟩
              · cases hst
            · cases hst
          | _ => simp [upC] at hst
        · rename_i r _ _
          obtain ⟨x, t⟩ := r
          cases x with
          | value v =>
            simp only at hst
            cases hm : mergeC (cls P o.op) (st i) t with
            | none => rw [hm] at hst; cases hst
            | some s' =>
              rw [hm] at hst
              simp only [Option.map_some, Option.some.injEq, Prod.mk.injEq] at hst
              exact ⟨v, hst.1.symm⟩
          | _ => simp at hst
    · cases hst
  · simp only [Option.some.injEq, Prod.mk.injEq] at hst
    exact ⟨undef, hst.1.symm⟩

theorem Reg.ac_size (R : Reg P ext call ops bs st ac) : ∀ i, i ≤ ops.size → (ac i).size = (ac 0).size := by
  intro i
  induction i with
  | zero => intro _; rfl
  | succ i ih =>
    intro hi
    have ho : ops[i]? = some ops[i] := by simp
    obtain ⟨v, hv⟩ := step_put (R.step i _ ho)
    rw [hv, ActC.put_size, ih (by omega)]

theorem Reg.ac_keep (R : Reg P ext call ops bs st ac) {t i : Nat} : ∀ {j : Nat}, i ≤ j → j ≤ ops.size → (∀ k o, i ≤ k → k < j → ops[k]? = some o → o.dst ≠ some t) → (ac j).get t = (ac i).get t := by
  intro j hij hj h
  induction j with
  | zero => have : i = 0 := by omega
            subst this; rfl
  | succ j ih =>
    rcases Nat.lt_or_ge i (j + 1) with hlt | hge
    · have ho : ops[j]? = some ops[j] := by simp
      obtain ⟨v, hv⟩ := step_put (R.step j _ ho)
      rw [hv, ActC.get_put_ne _ _ _ (h j _ (by omega) (by omega) ho), ih (by omega) (by omega) fun k o h1 h2 => h k o h1 (by omega)]
    · have : i = j + 1 := by omega
      subst this; rfl
end

end Go.Am

namespace Go.Am
variable {P : Program}

abbrev Listed (listed : Array Bool) (i : Nat) : Prop := listed.getD i false = true

structure Inv (P : Program) (ops : Array Oper) (bs : List Nat) (st : Nat → St) (ac : Nat → ActC) (ρ0 : Ren) (w0 : World)
    (listed : Array Bool) (jx : Nat) (ρ : Ren) (a' : Act) (w : World) : Prop where
  lsize : listed.size = ops.size
  closed : ∀ i k, Listed listed i → Bf bs k i → Listed listed k
  lo : ∀ i o, ops[i]? = some o → isHeld P o = true → Listed listed i → i < jx
  hi : ∀ i o, ops[i]? = some o → isHeld P o = true → ¬ Listed listed i → jx ≤ i
  jle : jx ≤ ops.size
  size : a'.tmps.size = (ac 0).size
  defers : a'.defers = []
  tmps : ∀ t m, m ≤ ops.size → (∀ j o, ops[j]? = some o → o.dst = some t → (Listed listed j ↔ j < m)) → VR P ρ ((ac m).get t) (a'.tmps.getD t undef)
  mem : RH P ρ (lookAt st ops.size jx) w
  free : ∀ i, i < ops.size → ¬ Listed listed i → Free ρ (st i).next (st (i + 1)).next
  wf : ∀ k, k ≤ jx → WF (st k)
  le : Le ρ0 ρ
  new : ∀ b g, ρ b = some g → ρ0 b = none → (st 0).next ≤ b ∧ b < (st ops.size).next ∧ (w0.heap.size ≤ g.blk ∨ Im ρ0 (st 0) g.blk)
  frame : ∀ k, k < w0.heap.size → ¬ Im ρ0 (st 0) k → w.heap[k]? = w0.heap[k]?
  hsize : w0.heap.size ≤ w.heap.size
  old : ∀ b o, b < (st 0).next → lookAt st ops.size jx b = some o → isDead o = false → ∃ o', (st 0).get b = some o' ∧ isDead o' = false
  os : w.os = w0.os
  out : w.output = w0.output
  tape : w.tape = w0.tape

section
variable {ext : FuncId → Option Ext} {call : CallC} {ops : Array Oper} {bs : List Nat} {st : Nat → St} {ac : Nat → ActC} {ρ0 : Ren} {w0 : World}
  {listed : Array Bool} {jx : Nat} {ρ : Ren} {a' : Act} {w : World}

theorem listed_set {i k : Nat} (hs : listed.size = ops.size) (hi : i < ops.size) : Listed (listed.setIfInBounds i true) k ↔ (k = i ∨ Listed listed k) := by
  unfold Listed
  by_cases h : i = k
  · subst h
    simp [Array.getD_eq_getD_getElem?, hs, hi]
  · have : k ≠ i := fun e => h e.symm
    simp [Array.getD_eq_getD_getElem?, Array.getElem?_setIfInBounds_ne h, this]

/-- what may come next: everything that must come before it is there -/
theorem ready_befores (R : Reg P ext call ops bs st ac) (I : Inv P ops bs st ac ρ0 w0 listed jx ρ a' w) {i : Nat} (hr : i ∈ Region.ready .any ops listed) :
    ∃ o, ops[i]? = some o ∧ i < ops.size ∧ ¬ Listed listed i ∧ ∀ k, Bf bs k i → Listed listed k := by
  obtain ⟨h0, o, ho, hall⟩ := mem_ready.1 hr
  have hi : i < ops.size := (Array.getElem?_eq_some_iff.1 ho).1
  refine ⟨o, ho, hi, ?_, ?_⟩
  · have : i < listed.size := I.lsize ▸ hi
    unfold Listed
    simp [Array.getD_eq_getD_getElem?, this] at h0 ⊢
    exact h0
  · intro k hk
    obtain ⟨o', ho', e, he, h1⟩ := R.bit i k hk
    have : o' = o := by rw [ho] at ho'; exact (Option.some.inj ho').symm
    subst this
    have hL : Listed listed e := by
      unfold edges at he
      obtain ⟨ed, h2, rfl⟩ := List.mem_map.1 he
      obtain ⟨h3, h4⟩ := List.mem_filter.1 h2
      exact hall ed (Array.mem_toList_iff.1 h3) h4
    rcases h1 with h1 | h1
    · exact h1 ▸ hL
    · exact I.closed e k hL h1

/-- what an operation looks at is as it is in the order of the text -/
theorem looks_rel (R : Reg P ext call ops bs st ac) (I : Inv P ops bs st ac ρ0 w0 listed jx ρ a' w) {i : Nat} {o : Oper} (ho : ops[i]? = some o) (hi : i < ops.size)
    (hn : ¬ Listed listed i) (hb : ∀ k, Bf bs k i → Listed listed k) : ∀ d, d ∈ o.looksAt ops → VR P ρ ((ac i).get d) (a'.tmps.getD d undef) := by
  intro t ht
  refine I.tmps t i (Nat.le_of_lt hi) fun j y hj hd => ?_
  rcases Nat.lt_trichotomy j i with h | h | h
  · refine ⟨fun _ => h, fun _ => ?_⟩
    by_cases hu : unord bs i j = true
    · have := (Oper.apart_spec (R.ord i j o y ho hj h hu).1).1 t hd
      exact absurd ht this
    · by_cases h1 : Bf bs j i
      · exact hb j h1
      · by_cases h2 : Bf bs i j
        · have := R.lt j i h2; omega
        · exact absurd (unord_of h2 h1 |> fun e => unord_comm ▸ e) hu
  · subst h
    exact ⟨fun h => absurd h hn, fun h => absurd h (Nat.lt_irrefl _)⟩
  · refine ⟨fun hL => ?_, fun h' => by omega⟩
    exfalso
    by_cases hu : unord bs j i = true
    · have := (Oper.apart_spec (R.ord j i y o hj ho h hu).1).2.2 t hd
      exact this ht
    · by_cases h1 : Bf bs i j
      · exact hn (I.closed j i hL h1)
      · by_cases h2 : Bf bs j i
        · have := R.lt i j h2; omega
        · exact hu (unord_of h2 h1 |> fun e => unord_comm ▸ e)

/-- one step of any order keeps the invariant -/
theorem Inv.update (R : Reg P ext call ops bs st ac) (I : Inv P ops bs st ac ρ0 w0 listed jx ρ a' w) (hsm : (ac 0).size ≤ 2 ^ 20) (hfree0 : Free ρ0 (st 0).next (st ops.size).next)
    {i : Nat} {o : Oper} (ho : ops[i]? = some o) (hi : i < ops.size) (hn : ¬ Listed listed i) (hb : ∀ k, Bf bs k i → Listed listed k)
    {jx' : Nat} {ρ1 : Ren} {w1 : World} {T T1 : St} {v v' : Value} (hac : ac (i + 1) = (ac i).put o.dst v) (hv : VR P ρ1 v v') (hout : Out P ρ T w ρ1 T1 w1)
    (hT : T.next = (st i).next) (hT1 : T1.next = (st (i + 1)).next) (hTw : WF T) (hsub : ∀ b ob, T.get b = some ob → lookAt st ops.size jx b = some ob)
    (hnew : ∀ b ob, lookAt st ops.size jx' b = some ob → T1.get b = some ob ∨ (T.get b = none ∧ lookAt st ops.size jx b = some ob ∧ (b < T.next ∨ T1.next ≤ b)))
    (hj : jx' ≤ ops.size) (hwf : ∀ k, k ≤ jx' → WF (st k)) (hlo : ∀ k x, ops[k]? = some x → isHeld P x = true → (k = i ∨ Listed listed k) → k < jx')
    (hhi : ∀ k x, ops[k]? = some x → isHeld P x = true → ¬ (k = i ∨ Listed listed k) → jx' ≤ k) :
    Inv P ops bs st ac ρ0 w0 (listed.setIfInBounds i true) jx' ρ1 (a'.put o.dst v') w1 := by
  have hLi : ∀ k, Listed (listed.setIfInBounds i true) k ↔ (k = i ∨ Listed listed k) := fun k => listed_set I.lsize hi
  have hfi : Free ρ T.next T1.next := by rw [hT, hT1]; exact I.free i hi hn
  have him : ∀ k, Im ρ T k → w0.heap.size ≤ k ∨ Im ρ0 (st 0) k := by
    rintro k ⟨b, g, ob, h1, h2, h3, h4⟩
    cases h0 : ρ0 b with
    | none => exact h2 ▸ (I.new b g h1 h0).2.2
    | some g0 =>
      have e : g0 = g := Option.some.inj ((I.le b g0 h0).symm.trans h1)
      subst e
      have hblt : b < (st 0).next := by
        rcases Nat.lt_or_ge b (st 0).next with hl | hl
        · exact hl
        · have hlt2 : b < (st ops.size).next := Nat.lt_of_lt_of_le (hT ▸ hTw.lt h3) (R.mono' (Nat.le_of_lt hi) (Nat.le_refl _))
          rw [hfree0 b hl hlt2] at h0; cases h0
      obtain ⟨o', h5, h6⟩ := I.old b ob hblt (hsub b ob h3) h4
      exact .inr ⟨b, g0, o', h0, h2, h5, h6⟩
  refine ⟨?_, ?_, ?_, ?_, hj, ?_, ?_, ?_, ?_, ?_, hwf, I.le.trans hout.le, ?_, ?_, Nat.le_trans I.hsize hout.size, ?_, hout.os.trans I.os, hout.out.trans I.out, hout.tape.trans I.tape⟩
  · simp [I.lsize]
  · intro k m hk hm
    rw [hLi] at hk ⊢
    rcases hk with rfl | hk
    · exact .inr (hb m hm)
    · exact .inr (I.closed k m hk hm)
  · intro k x h1 h2 h3; exact hlo k x h1 h2 ((hLi k).1 h3)
  · intro k x h1 h2 h3; exact hhi k x h1 h2 fun h => h3 ((hLi k).2 h)
  · rw [Act.put_size]; exact I.size
  · rw [Act.put_defers']; exact I.defers
  · intro t m hm hw
    by_cases hd : o.dst = some t
    · have him2 : i < m := (hw i o ho hd).1 ((hLi i).2 (.inl rfl))
      have hkeep : (ac m).get t = (ac (i + 1)).get t := by
        refine R.ac_keep him2 hm fun k y h1 h2 hk hdk => ?_
        have hL : Listed listed k := by
          rcases (hLi k).1 ((hw k y hk hdk).2 h2) with h | h
          · omega
          · exact h
        by_cases hu : unord bs k i = true
        · exact (Oper.apart_spec (R.ord k i y o hk ho (by omega) hu).1).2.1 t hd hdk
        · by_cases h3 : Bf bs i k
          · exact hn (I.closed k i hL h3)
          · by_cases h4 : Bf bs k i
            · have := R.lt i k h4; omega
            · exact hu (unord_of h4 h3 |> fun e => unord_comm ▸ e)
      rw [hkeep, hac]
      have hsi := R.ac_size i (Nat.le_of_lt hi)
      refine put_rel (by rw [hsi]; exact I.size) (by rw [hsi]; exact hsm) (fun h => absurd hd h) (fun _ hlt => ?_) hv
      -- out of the array: nothing is there on either side
      have hout' : ∀ k, k ≤ ops.size → (ac k).get t = (ac 0).get t := by
        intro k
        induction k with
        | zero => intro _; rfl
        | succ k ih =>
          intro hk
          have hok : ops[k]? = some ops[k] := by simp
          obtain ⟨u, hu⟩ := step_put (R.step k _ hok)
          rw [hu]
          by_cases hdk : ops[k].dst = some t
          · rw [hdk, ActC.put_out _ _ (by rw [R.ac_size k (by omega), ← hsi]; exact hlt)]; exact ih (by omega)
          · rw [ActC.get_put_ne _ _ _ hdk]; exact ih (by omega)
      -- some time at which the writers are just those
      have hsome : ∃ m', m' ≤ ops.size ∧ ∀ j y, ops[j]? = some y → y.dst = some t → (Listed listed j ↔ j < m') := by
        refine ⟨i, Nat.le_of_lt hi, fun j y hj hdj => ?_⟩
        have h5 := hw j y hj hdj
        rw [hLi] at h5
        constructor
        · intro hL
          rcases Nat.lt_trichotomy j i with h | h | h
          · exact h
          · subst h; exact absurd hL hn
          · exfalso
            by_cases hu : unord bs j i = true
            · exact (Oper.apart_spec (R.ord j i y o hj ho h hu).1).2.1 t hd hdj
            · by_cases h3 : Bf bs i j
              · exact hn (I.closed j i hL h3)
              · by_cases h4 : Bf bs j i
                · have := R.lt i j h4; omega
                · exact hu (unord_of h4 h3 |> fun e => unord_comm ▸ e)
        · intro hlt'
          rcases h5.2 (by omega) with h | h
          · omega
          · exact h
      obtain ⟨m', hm', hw'⟩ := hsome
      have := I.tmps t m' hm' hw'
      rw [hout' i (Nat.le_of_lt hi), ← hout' m' hm']
      exact this.mono hout.le
    · rw [Act.getD_put_ne a' _ v' hd]
      refine (I.tmps t m hm fun j y hj hdj => ?_).mono hout.le
      have := hw j y hj hdj
      rw [hLi] at this
      have hji : j ≠ i := by
        rintro rfl
        rw [ho] at hj; cases hj; exact hd hdj
      exact ⟨fun h => this.1 (.inr h), fun h => (this.2 h).resolve_left hji⟩
  · exact RH.merge I.mem hsub hout hfi hnew
  · intro k hk hnk b h1 h2
    have hki : k ≠ i := fun e => hnk ((hLi k).2 (.inl e))
    have hnk' : ¬ Listed listed k := fun h => hnk ((hLi k).2 (.inr h))
    cases hr : ρ1 b with
    | none => rfl
    | some g =>
      have h0 : ρ b = none := I.free k hk hnk' b h1 h2
      obtain ⟨h3, h4, _⟩ := hout.new b g hr h0
      rw [hT] at h3; rw [hT1] at h4
      rcases Nat.lt_or_ge k i with h | h
      · have := R.mono' (i := k + 1) (j := i) (by omega) (by omega); omega
      · have := R.mono' (i := i + 1) (j := k) (by omega) (by omega); omega
  · intro b g hr h0
    cases h1 : ρ b with
    | some g0 =>
      have e : g0 = g := Option.some.inj ((hout.le b g0 h1).symm.trans hr)
      subst e; exact I.new b g0 h1 h0
    | none =>
      obtain ⟨h3, h4, h5⟩ := hout.new b g hr h1
      rw [hT] at h3; rw [hT1] at h4
      refine ⟨Nat.le_trans (R.mono' (Nat.zero_le i) (by omega)) h3, Nat.lt_of_lt_of_le h4 (R.mono' (by omega) (Nat.le_refl _)), ?_⟩
      rcases h5 with h5 | h5
      · exact .inl (Nat.le_trans I.hsize h5)
      · exact him _ h5
  · intro k hk hnk
    rw [hout.frame k (Nat.lt_of_lt_of_le hk I.hsize) ?_, I.frame k hk hnk]
    intro h
    rcases him k h with h1 | h1
    · omega
    · exact hnk h1
  · intro b ob hb0 h1 h2
    rcases hnew b ob h1 with h3 | ⟨_, h4, _⟩
    · have hlt : b < T.next := by rw [hT]; exact Nat.lt_of_lt_of_le hb0 (R.mono' (Nat.zero_le i) (by omega))
      obtain ⟨o', h5, h6⟩ := hout.old b ob hlt h3 h2
      exact I.old b o' hb0 (hsub _ _ h5) h6
    · exact I.old b ob hb0 h4 h2
end
end Go.Am
