import Derived.Orders
namespace Go.Am
noncomputable section

/-- a trie over numbers (bijective base two) -/
inductive Tr (α : Type) where
  | e
  | n (l : Tr α) (v : Option α) (r : Tr α)

namespace Tr
variable {α : Type}
def get (t : Tr α) : Nat → Option α :=
  Tr.rec (fun _ => none) (fun _ v _ il ir k => Nat.rec v (fun k _ => Bool.rec (ir (Nat.div k 2)) (il (Nat.div k 2)) (Nat.beq (Nat.mod k 2) 0)) k) t
def left (t : Tr α) : Tr α := Tr.rec .e (fun l _ _ _ _ => l) t
def right (t : Tr α) : Tr α := Tr.rec .e (fun _ _ r _ _ => r) t
def val (t : Tr α) : Option α := Tr.rec none (fun _ v _ _ _ => v) t
def set (x : α) (f : Nat) : Tr α → Nat → Tr α :=
  Nat.rec (fun t _ => t) (fun _ ih t k => Nat.rec (.n t.left (some x) t.right)
    (fun k _ => Bool.rec (.n t.left t.val (ih t.right (Nat.div k 2))) (.n (ih t.left (Nat.div k 2)) t.val t.right) (Nat.beq (Nat.mod k 2) 0)) k) f
end Tr

structure St where
  heap : Tr Obj
  next : Nat

def deep : Nat := 40
def dead : Obj := .coro none
def St.get (s : St) (b : Nat) : Option Obj := s.heap.get b
def St.put (s : St) (b : Nat) (o : Obj) : St :=
  match s with
  | ⟨h, n⟩ => ⟨h.set o deep b, n⟩
def St.push (s : St) (o : Obj) : St :=
  match s with
  | ⟨h, n⟩ => ⟨h.set o deep n, Nat.rec 0 (fun m _ => Nat.succ m) (Nat.succ n)⟩
def St.cell (s : St) (a : Addr) : Option Value :=
  match s.get a.block with
  | some (.cells c _ _) => if a.spot.isSome then none else c[a.off]?
  | _ => none
def isOneCell : Value → Bool
  | .agg _ | .tuple _ => false
  | _ => true
/-- objects that the canonical memory may hold besides rows of cells -/
def plainObj : Obj → Bool
  | .cells _ _ fr => fr == (0, 0)
  | .map .. | .stringIter .. | .mapIter .. => true
  | _ => false

def runC (P : Program) {α : Type} : Sem α → St → Option (α × St)
  | .pure a, s => some (a, s)
  | .load _ a k, s => match s.cell a with
    | some v => runC P (k v) s
    | none => none
  | .store _ a v k, s => match s.get a.block with
    | some (.cells c e fr) =>
      if isOneCell v && a.spot.isNone && decide (a.off < c.size) then runC P k (s.put a.block (.cells (c.setIfInBounds a.off v) e fr)) else none
    | _ => none
  | .new o k, s => if plainObj o then runC P (k s.next) (s.push o) else none
  | .shape r k, s => match s.get r with
    | some (.cells c e _) => runC P (k (some (e, c.size))) s
    | some (.map ..) | some (.stringIter ..) | some (.mapIter ..) => runC P (k none) s
    | _ => none
  | .freeze _ _ _, _ => none
  | .frozen _ _, _ => none
  | .getObj r k, s => match s.get r with
    | some (.map es c) => runC P (k (.map es c)) s
    | some (.stringIter t p) => runC P (k (.stringIter t p)) s
    | some (.mapIter a b c d) => runC P (k (.mapIter a b c d)) s
    | _ => none
  | .setObj r o k, s => match s.get r, o with
    | some (.map ..), .map es c => runC P k (s.put r (.map es c))
    | some (.stringIter ..), .stringIter t p => runC P k (s.put r (.stringIter t p))
    | some (.mapIter ..), .mapIter a b c d => runC P k (s.put r (.mapIter a b c d))
    | _, _ => none
  | .choose q k, s => if q.forced then runC P (k 0) s else none
  | .sys _ _, _ => none
  | .program k, s => runC P (k P) s
  | .mark _ k, s => runC P k s
  | .halt _, _ => none

/-- no address inside -/
def addrFree : Nat → Value → Bool
  | _, .bool _ | _, .int .. | _, .float .. | _, .complex .. | _, .string _ | _, .pointer none | _, .slice none _ _ | _, .map none | _, .chan none | _, .nilFunc | _, .nilIface => true
  | n + 1, .agg cs => cs.toList.all (addrFree n)
  | n + 1, .tuple cs => cs.toList.all (addrFree n)
  | n + 1, .iface _ v => addrFree n v
  | _, _ => false

/-- the address behind a slice's start, always moved on -/
def moved (a : Addr) (n : Nat) : Addr := { block := a.block, off := a.off + n }

/-- a run that neither reads nor writes -/
def pureRun (P : Program) {α : Type} : Sem α → Option α
  | .pure a => some a
  | .program k => pureRun P (k P)
  | .mark _ k => pureRun P k
  | .choose q k => if q.forced then pureRun P (k 0) else none
  | _ => none

def freeRun (P : Program) (S : Sem Next) : Option Value :=
  match pureRun P S with
  | some (.value v) => if addrFree 100 v then some v else none
  | _ => none

def allFree (ev : Operand → Value) (l : List Operand) : Bool := l.all fun x => addrFree 100 (ev x)

def fieldC (P : Program) (st : TypeId) (x : Value) (f : Nat) : Option Value :=
  match P.underlying st, x with
  | some (.struct fields), .pointer (some a) =>
    match fields[f]? with
    | some fl => match P.info? fl.type with
      | some i => if i.size = 0 then none else some (.pointer (some (a.add fl.offset)))
      | none => none
    | none => none
  | _, _ => none

def indexC (P : Program) (t : TypeId) (x i : Value) : Option Value :=
  match P.underlying t, x, i with
  | some (.array len elem), .pointer (some a), .int _ n =>
    match P.info? elem with
    | some ei => if 0 ≤ n ∧ n < (len : Int) then some (.pointer (some (a.add (n.toNat * ei.size)))) else none
    | none => none
  | some (.slice elem), .slice (some a) len _, .int _ n =>
    match P.info? elem with
    | some ei => if 0 ≤ n ∧ n < (len : Int) then some (.pointer (some (a.add (n.toNat * ei.size)))) else none
    | none => none
  | _, _, _ => none

def typeAssertC (P : Program) (x : Value) (asserted : TypeId) (commaOk : Bool) : Option Value :=
  match P.underlying asserted, x with
  | some (.interface want), .iface t v =>
    match P.info? t with
    | some ti => match Instr.missingMethod want ti.methods with
      | none => some (if commaOk then .tuple #[.iface t v, .bool true] else .iface t v)
      | some _ => if commaOk then
          match (P.info? asserted).bind (·.zero) with
          | some z => some (.tuple #[z, .bool false])
          | none => none
        else none
    | none => none
  | some (.interface _), _ => none
  | some _, .iface t v => if t = asserted then some (if commaOk then .tuple #[v, .bool true] else v) else none
  | _, _ => none

def entriesC (s : St) : Value → Option (Array MapEntry)
  | .map none => some #[]
  | .map (some r) => match s.get r with
    | some (.map es _) => some es
    | _ => none
  | _ => none

def simpleKey : TypeDesc → Value → Bool
  | .int _, .int .. | .string, .string _ | .bool, .bool _ => true
  | _, _ => false

def lookupC (P : Program) (xType : TypeId) (m k : Value) (commaOk : Bool) (s : St) : Option Value :=
  match P.underlying xType with
  | some (.map kt elem) => match P.underlying kt, entriesC s m with
    | some kind, some es => if simpleKey kind k then
        match Instr.findNow kind k es.toList 0 with
        | some (some (_, v)) => some (if commaOk then .tuple #[v, .bool true] else v)
        | some none => match (P.info? elem).bind (·.zero) with
          | some z => some (if commaOk then .tuple #[z, .bool false] else z)
          | none => none
        | none => none
      else none
    | _, _ => none
  | _ => none

/-- a store into a map -/
def mapUpdateC (P : Program) (mt : TypeId) (m k v : Value) (s : St) : Option St :=
  match P.underlying mt, m with
  | some (.map kt _), .map (some r) => match P.underlying kt, s.get r with
    | some kind, some (.map es clock) => if simpleKey kind k then
        match Instr.findNow kind k es.toList 0 with
        | some (some (i, _)) => some (s.put r (.map (es.modify i fun e => { e with key := k, val := v }) clock))
        | some none => some (s.put r (.map (es.push { key := k, val := v, born := clock }) (clock + 1)))
        | none => none
      else none
    | _, _ => none
  | _, _ => none

def deleteC (P : Program) (argTypes : Array TypeId) (args : Array Value) (s : St) : Option St :=
  match (argTypes[0]? : Option TypeId), (args[0]? : Option Value), (args[1]? : Option Value) with
  | some mt, some (.map (some r)), some k => match P.underlying mt with
    | some (.map kt _) => match P.underlying kt, s.get r with
      | some kind, some (.map es clock) => if simpleKey kind k then
          match Instr.findNow kind k es.toList 0 with
          | some (some (i, _)) => some (s.put r (.map (es.eraseIdxIfInBounds i) clock))
          | some none => some (s.put r (.map es clock))
          | none => none
        else none
      | _, _ => none
    | _ => none
  | _, _, _ => none

def mapEntryC (P : Program) (mt : TypeId) (m k : Value) (s : St) : Option (Value × St) :=
  match P.underlying mt, m with
  | some (.map kt elem), .map (some r) => match P.underlying kt, s.get r with
    | some kind, some (.map es clock) => if simpleKey kind k then
        match Instr.findNow kind k es.toList 0 with
        | some (some (i, v)) => some (.tuple #[v, goInt (((es[i]?).map (·.born)).getD 0)], s.put r (.map (es.modify i fun e => { e with key := k }) clock))
        | some none => match (P.info? elem).bind (·.zero) with
          | some z => some (.tuple #[z, goInt clock], s.put r (.map (es.push { key := k, val := z, born := clock }) (clock + 1)))
          | none => none
        | none => none
      else none
    | _, _ => none
  | _, _ => none

def entryStoreC (m stamp v : Value) (s : St) : Option St :=
  match m, stamp with
  | .map (some r), .int _ born => match s.get r with
    | some (.map es clock) => match es.findIdx? (fun e => (e.born : Int) == born) with
      | some i => some (s.put r (.map (es.modify i fun e => { e with val := v }) clock))
      | none => none
    | _ => none
  | _, _ => none

def rangeC (P : Program) (t : TypeId) (x : Value) (s : St) : Option (Value × St) :=
  match P.underlying t, x with
  | some .string, .string b => some (.pointer (some ⟨s.next, 0, none⟩), s.push (.stringIter b 0))
  | some (.map ..), .map none => some (.pointer (some ⟨s.next, 0, none⟩), s.push (.mapIter none 0 #[] 0))
  | some (.map ..), .map (some m) => match s.get m with
    | some (.map _ clock) => some (.pointer (some ⟨s.next, 0, none⟩), s.push (.mapIter (some m) clock #[] clock))
    | _ => none
  | _, _ => none

def nextC (it : Value) (isString : Bool) (s : St) : Option (Value × St) :=
  match it with
  | .pointer (some a) => if a.off = 0 then
      match s.get a.block, isString with
      | some (.stringIter b pos), true =>
        if pos < b.size then
          some (.tuple #[.bool true, goInt pos, .int .i32 (Utf8.decode b pos).1], s.put a.block (.stringIter b (pos + (Utf8.decode b pos).2)))
        else some (.tuple #[.bool false], s)
      | some (.mapIter none _ _ _), false => some (.tuple #[.bool false], s)
      | some (.mapIter (some m) since seen last), false =>
        match s.get m with
        | some (.map es clock) =>
          -- at most one entry, and it was there when the ranging began
          match es.toList with
          | [] => some (.tuple #[.bool false], s)
          | [e] => if e.born < since ∧ e.born < last then
              if seen.contains e.born then some (.tuple #[.bool false], s)
              else some (.tuple #[.bool true, e.key, e.val], s.put a.block (.mapIter (some m) since (seen.push e.born) clock))
            else none
          | _ => none
        | _ => none
      | _, _ => none
    else none
  | _ => none

def within (n : Nat) : Value → Option Nat
  | .int _ i => if 0 ≤ i ∧ i ≤ (n : Int) then some i.toNat else none
  | _ => none
def endC (cap : Nat) : Option Value → Option Nat
  | none => some cap
  | some v => within cap v
def highC (full : Bool) (len m : Nat) : Option Value → Option Nat
  | none => if full then none else some len
  | some v => within m v
def lowC (h : Nat) : Option Value → Option Nat
  | none => some 0
  | some v => within h v
/-- bounds of a slice expression over a slice: low, high, end -/
def boundsC (len cap : Nat) (lo hi mx : Option Value) : Option (Nat × Nat × Nat) :=
  (endC cap mx).bind fun m => (highC mx.isSome len m hi).bind fun h => (lowC h lo).map fun l => (l, h, m)

/-- a slice expression over a slice -/
def sliceC (P : Program) (t : TypeId) (x : Value) (lo hi mx : Option Value) (s : St) : Option Value :=
  match P.underlying t, x with
  | some (.slice elem), .slice a len cap =>
    match boundsC len cap lo hi mx, P.info? elem with
    | some (l, h, m), some i => if h ≤ m then
        match a with
        | none => some (.slice none (h - l) (m - l))
        | some a => match s.get a.block with
          | some (.cells _ e _) => if P.cellsOf e == i.size then some (.slice (some (moved a (l * i.size))) (h - l) (m - l)) else none
          | _ => none
      else none
    | _, _ => none
  | _, _ => none

def isIntD : TypeDesc → Bool
  | .int _ => true
  | _ => false

/-- append: where the row has room as it is seen here, in place; else a new row of just the size, and the old one is given up if its true capacity is not known -/
def appendC (P : Program) (argTypes : Array TypeId) (args : Array Value) (s : St) : Option (Value × St) :=
  match (argTypes[0]? : Option TypeId), (argTypes[1]? : Option TypeId), (args[0]? : Option Value), (args[1]? : Option Value) with
  | some sType, some xType, some (.slice base sLen sCap), some x =>
    match P.underlying sType, P.underlying xType with
    | some (.slice elem), some xd =>
      match P.info? elem with
      | some ei =>
        if isIntD xd then none else
        match x with
        | .slice _ n _ =>
          match runC P (Builtin.firstCells ei.size n x) s with
          | none => none
          | some (new, _) =>
            if sLen + n ≤ sCap then
              match base with
              | some a => (runC P (storeCells (a.add (sLen * ei.size)) new.toList) s).map fun (_, s') => (.slice base (sLen + n) sCap, s')
              | none => if new.isEmpty then some (.slice base (sLen + n) sCap, s) else none
            else if decide (sLen + n > 2 ^ 20) || decide (ei.bytes > 2 ^ 16) || ei.bytes == 0 || (ei.zero.map (·.cells.size) != some ei.size) then none else
            match runC P (Builtin.firstCells ei.size sLen (.slice base sLen sCap)) s with
            | none => none
            | some (old, _) =>
              if (old ++ new).size != (sLen + n) * ei.size then none else
              let row : Obj := .cells (old ++ new) elem (0, 0)
              let res : Value := .slice (some ⟨s.next, 0, none⟩) (sLen + n) (sLen + n)
              match base with
              | none => if sCap = 0 then some (res, s.push row) else none
              | some a =>
                match s.get a.block with
                | some (.cells c e _) =>
                  if a.off + sCap * P.cellsOf e < c.size then some (res, s.push row)
                  else if a.off = 0 ∧ e = elem ∧ new.toList.all isOneCell = true then some (res, (s.put a.block dead).push row) else none
                | _ => none
        | _ => none
      | none => none
    | _, _ => none
  | _, _, _, _ => none

def capC (P : Program) (argTypes : Array TypeId) (args : Array Value) (s : St) : Option Value :=
  match (argTypes[0]? : Option TypeId), (args[0]? : Option Value) with
  | some t, some (.slice base _ n) =>
    match P.underlying t, base with
    | some (.slice _), none => some (goInt n)
    | some (.slice _), some a =>
      match s.get a.block with
      | some (.cells c e _) => if a.off + n * P.cellsOf e < c.size then some (goInt n) else none
      | _ => none
    | _, _ => none
  | _, _ => none

def lenC (P : Program) (argTypes : Array TypeId) (args : Array Value) (s : St) : Option Value :=
  match (argTypes[0]? : Option TypeId), (args[0]? : Option Value) with
  | some t, some x => match P.underlying t, x with
    | some .string, .string b => some (goInt b.size)
    | some (.slice _), .slice _ n _ => some (goInt n)
    | some (.array n _), _ => some (goInt n)
    | some (.map ..), m => (entriesC s m).map fun es => goInt es.size
    | _, _ => none
  | _, _ => none

/-- clear of a slice -/
def clearC (P : Program) (argTypes : Array TypeId) (args : Array Value) : Bool :=
  match (argTypes[0]? : Option TypeId), (args[0]? : Option Value) with
  | some t, some (.slice ..) => match P.underlying t with
    | some (.slice _) => true
    | _ => false
  | _, _ => false

def strBytesC (elem : TypeId) (t : ByteArray) (s : St) : Value × St :=
  (.slice (some ⟨s.next, 0, none⟩) t.size t.size, s.push (.cells (t.data.map fun b => .int .u8 b.toNat) elem (0, 0)))

/-- what bytesToString does behind its reading -/
def bytesRest (cs : Array Value) : Sem Value := do
  let mut s := ByteArray.empty
  for c in cs do
    let .int .u8 n := c | stuck "bytesToString: byte expected"
    s := s.push (UInt8.ofNat n.toNat)
  pure (.string s)

def bytesStrC (P : Program) (x : Value) (s : St) : Option Value :=
  match x with
  | .slice none _ _ => some (.string .empty)
  | .slice (some a) len _ =>
    match runC P (loadCells a len) s with
    | some (cs, _) => if cs.toList.all (addrFree 1) then
        match pureRun P (bytesRest cs) with
        | some (.string b) => some (.string b)
        | _ => none
      else none
    | none => none
  | _ => none

/-- comparisons with nil -/
def nilEq (P : Program) (t : TypeId) (x y : Value) : Option Bool :=
  match P.underlying t, x, y with
  | some (.pointer _), .pointer a, .pointer none | some (.pointer _), .pointer none, .pointer a => some a.isNone
  | some (.slice _), .slice a _ _, .slice none _ _ | some (.slice _), .slice none _ _, .slice a _ _ => some a.isNone
  | some (.map ..), .map a, .map none | some (.map ..), .map none, .map a => some a.isNone
  | _, _, _ => none

/-- what is known of body-less functions: those that look at strings alone, and the copy of a map -/
inductive Ext where
  | free (e : Array Value → Sem Value)
  | clone

def cloneC (args : Array Value) (s : St) : Option (Value × St) :=
  match args.toList with
  | [.iface t (.map (some r))] => match s.get r with
    | some (.map es clock) => some (.iface t (.map (some s.next)), s.push (.map es clock))
    | _ => none
  | _ => none

/-- how a method of an interface value is found: the function; the receiver is what the interface holds -/
def methodC (P : Program) (t : TypeId) (name : String) : Option FuncId :=
  match P.info? t with
  | none => none
  | some ti => match ti.methods.find? (·.name == name) with
    | none => none
    | some m => if m.path.isEmpty then
        match m.func, P.underlying t with
        | some (f, true), some (.pointer _) => some f
        | some (_, true), some _ => none
        | some (_, false), some (.pointer _) => none
        | some (f, false), some _ => some f
        | _, _ => none
      else none

def enterC (P : Program) (ext : FuncId → Option Ext) (f : FuncId) (args : Array Value) (s : St) : Option (Next × St) :=
  match ext f with
  | some (.free e) => if args.toList.all (addrFree 100) then
      match pureRun P (e args) with
      | some v => if addrFree 100 v then some (.value v, s) else none
      | none => none
    else none
  | some .clone => (cloneC args s).map fun (v, s') => (.value v, s')
  | none => match P.funcs[f]? with
    | some fn => if fn.body.isSome && !(fn.name == "runtime.NumGoroutine") then some (.enter f args, s) else none
    | none => none

def opC (P : Program) (ext : FuncId → Option Ext) (ev : Operand → Value) (o : Oper) (s : St) : Option (Next × St) :=
  let v (r : Option (Value × St)) : Option (Next × St) := r.map fun (x, s') => (.value x, s')
  let u (r : Option Value) : Option (Next × St) := r.map fun x => (.value x, s)
  let k (r : Option St) : Option (Next × St) := r.map fun s' => (.skip, s')
  match o.op with
  | .move x | .assign x => some (.value (ev x), s)
  | .pick c a b => match ev c with
    | .bool t => some (.value (if t then ev a else ev b), s)
    | _ => none
  | .alloc .. | .box .. | .build .. | .buildSlice .. | .load .. | .store .. | .makeSlice .. => runC P (execOp ev o) s
  | .fieldAddr st x f => u (fieldC P st (ev x) f)
  | .indexAddr t x i => u (indexC P t (ev x) (ev i))
  | .nilCheck x => match ev x with
    | .pointer (some a) => some (.value (.pointer (some a)), s)
    | _ => none
  | .extract t i => match ev t with
    | .tuple vs => match vs[i]? with
      | some x => some (.value x, s)
      | none => none
    | _ => none
  | .makeInterface xt x => match P.underlying xt with
    | some (.interface _) | none => none
    | some _ => some (.value (.iface xt (ev x)), s)
  | .makeFunc fn first captured => some (.value (.func fn (first.map ev) (captured.map ev)), s)
  | .makeMap _ none => some (.value (.map (some s.next)), s.push (.map #[] 0))
  | .typeAssert x _ t ok => u (typeAssertC P (ev x) t ok)
  | .lookup t m i ok => u (lookupC P t (ev m) (ev i) ok s)
  | .mapUpdate t m i x => k (mapUpdateC P t (ev m) (ev i) (ev x) s)
  | .mapEntry t m i => v (mapEntryC P t (ev m) (ev i) s)
  | .entryStore _ m st x => k (entryStoreC (ev m) (ev st) (ev x) s)
  | .range t x => v (rangeC P t (ev x) s)
  | .next it isString => v (nextC (ev it) isString s)
  | .unOp .. | .field .. | .index .. => if allFree ev o.op.operands.toList then u (freeRun P (execOp ev o)) else none
  | .binOp op t x y _ =>
    if addrFree 100 (ev x) && addrFree 100 (ev y) then u (freeRun P (execOp ev o))
    else match op, nilEq P t (ev x) (ev y) with
      | .eql, some b => some (.value (.bool b), s)
      | .neq, some b => some (.value (.bool !b), s)
      | _, _ => none
  | .convert src dst x =>
    match P.underlying src, P.underlying dst, ev x with
    | some .string, some (.slice e), .string t => match P.underlying e with
      | some (.int .u8) => if P.cellsOf e = 1 then v (some (strBytesC e t s)) else none
      | _ => none
    | some (.slice e), some .string, .slice a n c => match P.underlying e with
      | some (.int .u8) => u (bytesStrC P (.slice a n c) s)
      | _ => none
    | _, _, .int .. | _, some .string, .string _ => u (freeRun P (execOp ev o))
    | _, _, _ => none
  | .slice t x lo hi mx => match ev x with
    | .string _ => if allFree ev o.op.operands.toList then u (freeRun P (execOp ev o)) else none
    | .slice .. => u (sliceC P t (ev x) (lo.map ev) (hi.map ev) (mx.map ev) s)
    | _ => none
  | .call c =>
    match c.callee with
    | .builtin .append => v (appendC P c.argTypes (c.args.map ev) s)
    | .builtin .cap => u (capC P c.argTypes (c.args.map ev) s)
    | .builtin .len => u (lenC P c.argTypes (c.args.map ev) s)
    | .builtin .delete => (deleteC P c.argTypes (c.args.map ev) s).map fun s' => (.value (.tuple #[]), s')
    | .builtin .max | .builtin .min => if allFree ev o.op.operands.toList then u (freeRun P (execOp ev o)) else none
    | .builtin .clear => if clearC P c.argTypes (c.args.map ev) then runC P (execOp ev o) s else none
    | .builtin _ => none
    | .value fv => match ev fv with
      | .func (.func f) first captured => enterC P ext f (first ++ c.args.map ev ++ captured) s
      | _ => none
    | .invoke r name => match ev r with
      | .iface t x => match methodC P t name with
        | some f => enterC P ext f (#[x] ++ c.args.map ev) s
        | none => none
      | _ => none
  | _ => none

end
end Go.Am
