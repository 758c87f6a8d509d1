import Derived.Test.YtkandjlcimggkaaGreatDoorAmExec
import Derived.Laws.Sem
namespace Go.Am

/-! ## The trie -/
namespace Tr
variable {α : Type}
theorem get_e (k : Nat) : (Tr.e : Tr α).get k = none := rfl
theorem get_zero (t : Tr α) : t.get 0 = t.val := by cases t <;> rfl
theorem get_even (t : Tr α) {k : Nat} (h : Nat.beq (Nat.mod k 2) 0 = true) : t.get (k + 1) = t.left.get (Nat.div k 2) := by
  cases t with
  | e => rfl
  | n l v r =>
    show (Bool.rec (motive := fun _ => Option α) (r.get (Nat.div k 2)) (l.get (Nat.div k 2)) (Nat.beq (Nat.mod k 2) 0)) = _
    rw [h]; rfl
theorem get_odd (t : Tr α) {k : Nat} (h : Nat.beq (Nat.mod k 2) 0 = false) : t.get (k + 1) = t.right.get (Nat.div k 2) := by
  cases t with
  | e => rfl
  | n l v r =>
    show (Bool.rec (motive := fun _ => Option α) (r.get (Nat.div k 2)) (l.get (Nat.div k 2)) (Nat.beq (Nat.mod k 2) 0)) = _
    rw [h]; rfl
theorem set_zero (x : α) (f : Nat) (t : Tr α) : set x (f + 1) t 0 = .n t.left (some x) t.right := rfl
theorem set_even (x : α) (f : Nat) (t : Tr α) {k : Nat} (h : Nat.beq (Nat.mod k 2) 0 = true) : set x (f + 1) t (k + 1) = .n (set x f t.left (Nat.div k 2)) t.val t.right := by
  show (Bool.rec (motive := fun _ => Tr α) (Tr.n t.left t.val (set x f t.right (Nat.div k 2))) (Tr.n (set x f t.left (Nat.div k 2)) t.val t.right) (Nat.beq (Nat.mod k 2) 0)) = _
  rw [h]
theorem set_odd (x : α) (f : Nat) (t : Tr α) {k : Nat} (h : Nat.beq (Nat.mod k 2) 0 = false) : set x (f + 1) t (k + 1) = .n t.left t.val (set x f t.right (Nat.div k 2)) := by
  show (Bool.rec (motive := fun _ => Tr α) (Tr.n t.left t.val (set x f t.right (Nat.div k 2))) (Tr.n (set x f t.left (Nat.div k 2)) t.val t.right) (Nat.beq (Nat.mod k 2) 0)) = _
  rw [h]
theorem left_n (l r : Tr α) (v : Option α) : (Tr.n l v r).left = l := rfl
theorem right_n (l r : Tr α) (v : Option α) : (Tr.n l v r).right = r := rfl
theorem val_n (l r : Tr α) (v : Option α) : (Tr.n l v r).val = v := rfl
theorem half_ne {k k' : Nat} {b : Bool} (h1 : Nat.beq (Nat.mod k 2) 0 = b) (h2 : Nat.beq (Nat.mod k' 2) 0 = b) (h : k + 1 ≠ k' + 1) : Nat.div k 2 ≠ Nat.div k' 2 := by
  intro he
  have e1 : k / 2 = k' / 2 := he
  cases b with
  | true =>
    have a1 : k % 2 = 0 := Nat.eq_of_beq_eq_true h1
    have a2 : k' % 2 = 0 := Nat.eq_of_beq_eq_true h2
    omega
  | false =>
    have a1 : k % 2 ≠ 0 := Nat.ne_of_beq_eq_false h1
    have a2 : k' % 2 ≠ 0 := Nat.ne_of_beq_eq_false h2
    omega
theorem get_set_ne (x : α) : ∀ (f : Nat) (t : Tr α) (k k' : Nat), k ≠ k' → (set x f t k).get k' = t.get k'
  | 0, _, _, _, _ => rfl
  | f + 1, t, 0, 0, h => (h rfl).elim
  | f + 1, t, 0, k' + 1, _ => by
    rw [set_zero]
    cases h : Nat.beq (Nat.mod k' 2) 0
    · rw [get_odd _ h, get_odd _ h, right_n]
    · rw [get_even _ h, get_even _ h, left_n]
  | f + 1, t, k + 1, 0, _ => by
    rw [get_zero t]
    cases h : Nat.beq (Nat.mod k 2) 0
    · rw [set_odd _ _ _ h]; rfl
    · rw [set_even _ _ _ h]; rfl
  | f + 1, t, k + 1, k' + 1, h => by
    cases h1 : Nat.beq (Nat.mod k 2) 0 <;> cases h2 : Nat.beq (Nat.mod k' 2) 0
    · rw [set_odd _ _ _ h1, get_odd _ h2, get_odd _ h2, right_n]; exact get_set_ne x f _ _ _ (half_ne h1 h2 h)
    · rw [set_odd _ _ _ h1, get_even _ h2, get_even _ h2, left_n]
    · rw [set_even _ _ _ h1, get_odd _ h2, get_odd _ h2, right_n]
    · rw [set_even _ _ _ h1, get_even _ h2, get_even _ h2, left_n]; exact get_set_ne x f _ _ _ (half_ne h1 h2 h)
theorem get_set_same (x : α) : ∀ (f : Nat) (t : Tr α) (k : Nat), k + 1 < 2 ^ f → (set x f t k).get k = some x
  | 0, _, k, h => by simp at h
  | f + 1, t, 0, _ => rfl
  | f + 1, t, k + 1, h => by
    have hd : Nat.div k 2 + 1 < 2 ^ f := by
      have : k / 2 + 1 < 2 ^ f := by rw [Nat.pow_succ] at h; omega
      exact this
    cases h1 : Nat.beq (Nat.mod k 2) 0
    · rw [set_odd _ _ _ h1, get_odd _ h1, right_n]; exact get_set_same x f _ _ hd
    · rw [set_even _ _ _ h1, get_even _ h1, left_n]; exact get_set_same x f _ _ hd
end Tr

/-- how many names there may be -/
def lim : Nat := 2 ^ 38
theorem lim_deep {b : Nat} (h : b ≤ lim) : b + 1 < 2 ^ deep := by unfold lim at h; unfold deep; omega

structure WF (s : St) : Prop where
  le : s.next ≤ lim
  none : ∀ b, s.next ≤ b → s.get b = none

theorem WF.lt {s : St} (h : WF s) {b : Nat} {o : Obj} (hb : s.get b = some o) : b < s.next := by
  rcases Nat.lt_or_ge b s.next with h1 | h1
  · exact h1
  · rw [h.none b h1] at hb; cases hb

theorem St.get_put_same {s : St} (h : WF s) {b : Nat} (hb : b < s.next) (o : Obj) : (s.put b o).get b = some o :=
  Tr.get_set_same _ _ _ _ (lim_deep (Nat.le_trans (Nat.le_of_lt hb) h.le))
theorem St.get_put_ne {s : St} {b b' : Nat} (o : Obj) (h : b ≠ b') : (s.put b o).get b' = s.get b' := by
  show (Tr.set o deep s.heap b).get b' = s.heap.get b'
  exact Tr.get_set_ne _ _ _ _ _ h
theorem St.get_push_same {s : St} (h : s.next ≤ lim) (o : Obj) : (s.push o).get s.next = some o := Tr.get_set_same _ _ _ _ (lim_deep h)
theorem St.get_push_ne {s : St} {b : Nat} (o : Obj) (h : s.next ≠ b) : (s.push o).get b = s.get b := by
  show (Tr.set o deep s.heap s.next).get b = s.heap.get b
  exact Tr.get_set_ne _ _ _ _ _ h
theorem WF.put {s : St} (h : WF s) {b : Nat} (hb : b < s.next) (o : Obj) : WF (s.put b o) :=
  ⟨h.le, fun b' hb' => by rw [St.get_put_ne o (by have : s.next ≤ b' := hb'; omega)]; exact h.none b' hb'⟩
theorem WF.push {s : St} (h : WF s) (hl : s.next + 1 ≤ lim) (o : Obj) : WF (s.push o) :=
  ⟨hl, fun b hb => by
    have hb' : s.next + 1 ≤ b := hb
    rw [St.get_push_ne o (by omega)]; exact h.none b (by omega)⟩

/-! ## Names and places -/
/-- where a name lies: the block · the cells that are seen, and all its cells · the type of its elements -/
structure G where
  blk : Nat
  n : Nat
  m : Nat
  e : TypeId

abbrev Ren := Nat → Option G
def Le (ρ ρ1 : Ren) : Prop := ∀ b g, ρ b = some g → ρ1 b = some g
theorem Le.refl (ρ : Ren) : Le ρ ρ := fun _ _ h => h
theorem Le.trans {ρ ρ1 ρ2 : Ren} (h : Le ρ ρ1) (h' : Le ρ1 ρ2) : Le ρ ρ2 := fun b g hb => h' b g (h b g hb)

/-- two values that are the same but for the names of blocks, and for capacities that are not known -/
inductive VR (P : Program) (ρ : Ren) : Value → Value → Prop
  | bool (b : Bool) : VR P ρ (.bool b) (.bool b)
  | int (k : IntKind) (n : Int) : VR P ρ (.int k n) (.int k n)
  | float (k : FloatKind) (n : Nat) : VR P ρ (.float k n) (.float k n)
  | complex (k : FloatKind) (a b : Nat) : VR P ρ (.complex k a b) (.complex k a b)
  | string (s : ByteArray) : VR P ρ (.string s) (.string s)
  | ptrNil : VR P ρ (.pointer none) (.pointer none)
  | ptr (a : Addr) (g : G) (h : ρ a.block = some g) : VR P ρ (.pointer (some a)) (.pointer (some ⟨g.blk, a.off, a.spot⟩))
  | slNil (l c : Nat) : VR P ρ (.slice none l c) (.slice none l c)
  | sl (a : Addr) (g : G) (l c off' c' : Nat) (h : ρ a.block = some g) (hs : a.spot = none) (ho : 0 < c ∨ 0 < l ∨ c' ≠ c → off' = a.off)
      (hc : c' = c ∨ (c ≤ c' ∧ a.off + c * P.cellsOf g.e = g.n ∧ off' + c' * P.cellsOf g.e ≤ g.m)) :
      VR P ρ (.slice (some a) l c) (.slice (some ⟨g.blk, off', none⟩) l c')
  | mapNil : VR P ρ (.map none) (.map none)
  | map (r : Nat) (g : G) (h : ρ r = some g) : VR P ρ (.map (some r)) (.map (some g.blk))
  | chanNil : VR P ρ (.chan none) (.chan none)
  | func (fn : Fn) (a a' c c' : Array Value) (ha : a.size = a'.size) (hc : c.size = c'.size)
      (va : ∀ i (h : i < a.size) (h' : i < a'.size), VR P ρ a[i] a'[i]) (vc : ∀ i (h : i < c.size) (h' : i < c'.size), VR P ρ c[i] c'[i]) :
      VR P ρ (.func fn a c) (.func fn a' c')
  | nilFunc : VR P ρ .nilFunc .nilFunc
  | iface (t : TypeId) (v v' : Value) (h : VR P ρ v v') : VR P ρ (.iface t v) (.iface t v')
  | nilIface : VR P ρ .nilIface .nilIface
  | agg (c c' : Array Value) (hc : c.size = c'.size) (vc : ∀ i (h : i < c.size) (h' : i < c'.size), VR P ρ c[i] c'[i]) : VR P ρ (.agg c) (.agg c')
  | tuple (c c' : Array Value) (hc : c.size = c'.size) (vc : ∀ i (h : i < c.size) (h' : i < c'.size), VR P ρ c[i] c'[i]) : VR P ρ (.tuple c) (.tuple c')

variable {P : Program}

theorem VR.mono {ρ ρ1 : Ren} (hle : Le ρ ρ1) {v v' : Value} (h : VR P ρ v v') : VR P ρ1 v v' := by
  induction h with
  | bool b => exact .bool b
  | int k n => exact .int k n
  | float k n => exact .float k n
  | complex k a b => exact .complex k a b
  | string s => exact .string s
  | ptrNil => exact .ptrNil
  | ptr a g h => exact .ptr a g (hle _ _ h)
  | slNil l c => exact .slNil l c
  | sl a g l c o c' h hs ho hc => exact .sl a g l c o c' (hle _ _ h) hs ho hc
  | mapNil => exact .mapNil
  | map r g h => exact .map r g (hle _ _ h)
  | chanNil => exact .chanNil
  | func fn a a' c c' ha hc _ _ iha ihc => exact .func fn a a' c c' ha hc iha ihc
  | nilFunc => exact .nilFunc
  | iface t v v' _ ih => exact .iface t v v' ih
  | nilIface => exact .nilIface
  | agg c c' hc _ ih => exact .agg c c' hc ih
  | tuple c c' hc _ ih => exact .tuple c c' hc ih

/-- rows of values -/
structure VRs (P : Program) (ρ : Ren) (a a' : Array Value) : Prop where
  size : a.size = a'.size
  at_ : ∀ i (h : i < a.size) (h' : i < a'.size), VR P ρ a[i] a'[i]

theorem VRs.mono {ρ ρ1 : Ren} (hle : Le ρ ρ1) {a a' : Array Value} (h : VRs P ρ a a') : VRs P ρ1 a a' := ⟨h.size, fun i x y => (h.at_ i x y).mono hle⟩
theorem VRs.get {ρ : Ren} {a a' : Array Value} (h : VRs P ρ a a') {i : Nat} {v : Value} (hv : a[i]? = some v) : ∃ v', a'[i]? = some v' ∧ VR P ρ v v' := by
  obtain ⟨hi, rfl⟩ := Array.getElem?_eq_some_iff.1 hv
  have hi' : i < a'.size := h.size ▸ hi
  exact ⟨a'[i], by simp [hi'], h.at_ i hi hi'⟩
theorem VRs.none {ρ : Ren} {a a' : Array Value} (h : VRs P ρ a a') {i : Nat} (hv : a[i]? = none) : a'[i]? = none := by
  rw [Array.getElem?_eq_none_iff] at hv ⊢; have := h.size; omega
theorem VRs.of_get {ρ : Ren} {a a' : Array Value} (hs : a.size = a'.size) (h : ∀ (i : Nat) (v : Value), a[i]? = some v → ∃ v' : Value, a'[i]? = some v' ∧ VR P ρ v v') : VRs P ρ a a' :=
  ⟨hs, fun i x y => by
    obtain ⟨v', h1, h2⟩ := h i a[i] (by simp [x])
    have : a'[i] = v' := by simpa [y] using h1
    exact this ▸ h2⟩
theorem VRs.empty {ρ : Ren} : VRs P ρ #[] #[] := ⟨rfl, fun i h => by simp at h⟩
theorem VRs.push {ρ : Ren} {a a' : Array Value} {v v' : Value} (h : VRs P ρ a a') (hv : VR P ρ v v') : VRs P ρ (a.push v) (a'.push v') := by
  refine .of_get (by simp [h.size]) fun i x hx => ?_
  rw [Array.getElem?_push] at hx ⊢
  have := h.size
  by_cases hi : i = a.size
  · rw [if_pos hi] at hx; cases hx
    rw [if_pos (by omega)]; exact ⟨v', rfl, hv⟩
  · rw [if_neg hi] at hx; rw [if_neg (by omega)]; exact h.get hx
theorem VRs.append {ρ : Ren} {a a' b b' : Array Value} (h : VRs P ρ a a') (hb : VRs P ρ b b') : VRs P ρ (a ++ b) (a' ++ b') := by
  refine .of_get (by simp [h.size, hb.size]) fun i x hx => ?_
  rw [Array.getElem?_append] at hx ⊢
  have := h.size
  by_cases hi : i < a.size
  · rw [if_pos hi] at hx; rw [if_pos (by omega)]; exact h.get hx
  · rw [if_neg hi] at hx; rw [if_neg (by omega), ← h.size]; exact hb.get hx
theorem VRs.extract {ρ : Ren} {a a' : Array Value} (h : VRs P ρ a a') (l r : Nat) : VRs P ρ (a.extract l r) (a'.extract l r) := by
  have hs := h.size
  refine .of_get (by simp [hs]) fun i x hx => ?_
  rw [Array.getElem?_extract] at hx ⊢
  rw [← hs]
  split at hx
  · rw [if_pos ‹_›]; exact h.get hx
  · cases hx
theorem VRs.set {ρ : Ren} {a a' : Array Value} {v v' : Value} (h : VRs P ρ a a') (i : Nat) (hv : VR P ρ v v') : VRs P ρ (a.setIfInBounds i v) (a'.setIfInBounds i v') := by
  have hs := h.size
  refine .of_get (by simp [hs]) fun j x hx => ?_
  rw [Array.getElem?_setIfInBounds] at hx ⊢
  by_cases hij : i = j
  · rw [if_pos hij] at hx ⊢
    rw [← hs]
    split at hx
    · rw [if_pos ‹_›]; cases hx; exact ⟨v', rfl, hv⟩
    · cases hx
  · rw [if_neg hij] at hx ⊢; exact h.get hx

theorem VR.cells {ρ : Ren} {v v' : Value} (h : VR P ρ v v') : VRs P ρ v.cells v'.cells := by
  have one : ∀ {x x' : Value}, VR P ρ x x' → VRs P ρ #[x] #[x'] := fun hx => VRs.push .empty hx
  cases h with
  | agg c c' hc vc => exact ⟨hc, vc⟩
  | bool b => exact one (.bool b)
  | int k n => exact one (.int k n)
  | float k n => exact one (.float k n)
  | complex k a b => exact one (.complex k a b)
  | string s => exact one (.string s)
  | ptrNil => exact one .ptrNil
  | ptr a g h => exact one (.ptr a g h)
  | slNil l c => exact one (.slNil l c)
  | sl a g l c o c' h hs ho hc => exact one (.sl a g l c o c' h hs ho hc)
  | mapNil => exact one .mapNil
  | map r g h => exact one (.map r g h)
  | chanNil => exact one .chanNil
  | func fn a a' c c' ha hc h1 h2 => exact one (.func fn a a' c c' ha hc h1 h2)
  | nilFunc => exact one .nilFunc
  | iface t v v' h => exact one (.iface t v v' h)
  | nilIface => exact one .nilIface
  | tuple c c' hc vc => exact one (.tuple c c' hc vc)

theorem VR.oneCell {ρ : Ren} {v v' : Value} (h : VR P ρ v v') : isOneCell v' = isOneCell v := by cases h <;> rfl

/-- a value without an address is the very same -/
theorem VR.eq_of_free {ρ : Ren} {v v' : Value} (h : VR P ρ v v') : ∀ n, addrFree n v = true → v' = v := by
  induction h with
  | ptr a g h => intro n hn; cases n <;> simp [addrFree] at hn
  | sl => intro n hn; cases n <;> simp [addrFree] at hn
  | map => intro n hn; cases n <;> simp [addrFree] at hn
  | func => intro n hn; cases n <;> simp [addrFree] at hn
  | iface t v v' _ ih =>
    intro n hn
    cases n with
    | zero => simp [addrFree] at hn
    | succ n => rw [ih n (by simpa [addrFree] using hn)]
  | agg c c' hc _ ih =>
    intro n hn
    cases n with
    | zero => simp [addrFree] at hn
    | succ n =>
      simp only [addrFree, List.all_eq_true] at hn
      congr 1
      refine Array.ext hc.symm fun i h1 h2 => ih i h2 h1 n (hn _ ?_)
      exact Array.mem_toList_iff.2 (Array.getElem_mem _)
  | tuple c c' hc _ ih =>
    intro n hn
    cases n with
    | zero => simp [addrFree] at hn
    | succ n =>
      simp only [addrFree, List.all_eq_true] at hn
      congr 1
      refine Array.ext hc.symm fun i h1 h2 => ih i h2 h1 n (hn _ ?_)
      exact Array.mem_toList_iff.2 (Array.getElem_mem _)
  | _ => intros; rfl

/-- a value without an address is like itself -/
theorem VR.of_free {ρ : Ren} : ∀ (n : Nat) (v : Value), addrFree n v = true → VR P ρ v v := by
  intro n
  induction n with
  | zero =>
    intro v h
    cases v with
    | bool b => exact .bool b
    | int k n => exact .int k n
    | float k n => exact .float k n
    | complex k a b => exact .complex k a b
    | string s => exact .string s
    | pointer a => cases a with | none => exact .ptrNil | some a => simp [addrFree] at h
    | slice a l c => cases a with | none => exact .slNil l c | some a => simp [addrFree] at h
    | map r => cases r with | none => exact .mapNil | some a => simp [addrFree] at h
    | chan r => cases r with | none => exact .chanNil | some a => simp [addrFree] at h
    | nilFunc => exact .nilFunc
    | nilIface => exact .nilIface
    | func => simp [addrFree] at h
    | iface => simp [addrFree] at h
    | agg => simp [addrFree] at h
    | tuple => simp [addrFree] at h
  | succ n ih =>
    intro v h
    cases v with
    | bool b => exact .bool b
    | int k n => exact .int k n
    | float k n => exact .float k n
    | complex k a b => exact .complex k a b
    | string s => exact .string s
    | pointer a => cases a with | none => exact .ptrNil | some a => simp [addrFree] at h
    | slice a l c => cases a with | none => exact .slNil l c | some a => simp [addrFree] at h
    | map r => cases r with | none => exact .mapNil | some a => simp [addrFree] at h
    | chan r => cases r with | none => exact .chanNil | some a => simp [addrFree] at h
    | nilFunc => exact .nilFunc
    | nilIface => exact .nilIface
    | func => simp [addrFree] at h
    | iface t v => exact .iface t v v (ih v (by simpa [addrFree] using h))
    | agg c =>
      simp only [addrFree, List.all_eq_true] at h
      exact .agg c c rfl fun i x _ => ih _ (h _ (Array.mem_toList_iff.2 (Array.getElem_mem _)))
    | tuple c =>
      simp only [addrFree, List.all_eq_true] at h
      exact .tuple c c rfl fun i x _ => ih _ (h _ (Array.mem_toList_iff.2 (Array.getElem_mem _)))

/-! ## Memory -/
def isDead : Obj → Bool
  | .coro _ => true
  | _ => false

/-- what lies at a place is what is known of it -/
def OR (P : Program) (ρ : Ren) (g : G) : Obj → Option Obj → Prop
  | .cells c e fr, some (.cells c' e' fr') => fr = (0, 0) ∧ e' = e ∧ g.e = e ∧ c.size = g.n ∧ c'.size = g.m ∧ c.size ≤ c'.size ∧
      (∀ i, i < c'.size → ¬ (fr'.1 ≤ i ∧ i < fr'.2)) ∧ ∀ (i : Nat) (v : Value), c[i]? = some v → ∃ v' : Value, c'[i]? = some v' ∧ VR P ρ v v'
  | .map es k, some (.map es' k') => k' = k ∧ es.size = es'.size ∧
      ∀ (i : Nat) (e : MapEntry), es[i]? = some e → ∃ e' : MapEntry, es'[i]? = some e' ∧ e'.born = e.born ∧ VR P ρ e.key e'.key ∧ VR P ρ e.val e'.val
  | .stringIter t p, some o => o = .stringIter t p
  | .mapIter m a b c, some (.mapIter m' a' b' c') => a' = a ∧ b' = b ∧ c' = c ∧
      (m = none ∧ m' = none ∨ ∃ r g, m = some r ∧ ρ r = some g ∧ m' = some g.blk)
  | o, _ => isDead o = true

theorem OR.mono {ρ ρ1 : Ren} (hle : Le ρ ρ1) {g : G} {o : Obj} {o' : Option Obj} (h : OR P ρ g o o') : OR P ρ1 g o o' := by
  unfold OR at *
  split at h
  · obtain ⟨h0, h1, h2, h3, h4, h5, h6, h7⟩ := h
    refine ⟨h0, h1, h2, h3, h4, h5, h6, fun i v hv => ?_⟩
    obtain ⟨v', hv', hr⟩ := h7 i v hv
    exact ⟨v', hv', hr.mono hle⟩
  · obtain ⟨h1, h2, h3⟩ := h
    refine ⟨h1, h2, fun i e he => ?_⟩
    obtain ⟨e', he', hb, hk, hv⟩ := h3 i e he
    exact ⟨e', he', hb, hk.mono hle, hv.mono hle⟩
  · exact h
  · obtain ⟨h1, h2, h3, h4⟩ := h
    refine ⟨h1, h2, h3, ?_⟩
    rcases h4 with h4 | ⟨r, g, h4, h5, h6⟩
    · exact .inl h4
    · exact .inr ⟨r, g, h4, hle _ _ h5, h6⟩
  · exact h

theorem OR.of_dead {ρ : Ren} {g : G} {o : Obj} {o' : Option Obj} (h : isDead o = true) : OR P ρ g o o' := by
  cases o <;> simp [isDead] at h
  simp [OR, isDead]

/-- memory: each name that lies somewhere, and whose object is known, lies there -/
structure RH (P : Program) (ρ : Ren) (h : Nat → Option Obj) (w : World) : Prop where
  lt : ∀ b g, ρ b = some g → g.blk < w.heap.size
  inj : ∀ b b' g g' o o', ρ b = some g → ρ b' = some g' → h b = some o → h b' = some o' → isDead o = false → isDead o' = false → g.blk = g'.blk → b = b'
  obj : ∀ b g o, ρ b = some g → h b = some o → OR P ρ g o w.heap[g.blk]?

abbrev R (P : Program) (ρ : Ren) (s : St) (w : World) : Prop := RH P ρ s.get w

/-- the blocks that known, living names lie in -/
def Im (ρ : Ren) (s : St) (k : Nat) : Prop := ∃ b g o, ρ b = some g ∧ g.blk = k ∧ s.get b = some o ∧ isDead o = false

structure Out (P : Program) (ρ : Ren) (s : St) (w : World) (ρ1 : Ren) (s1 : St) (w1 : World) : Prop where
  le : Le ρ ρ1
  r : R P ρ1 s1 w1
  new : ∀ b g, ρ1 b = some g → ρ b = none → s.next ≤ b ∧ b < s1.next ∧ (w.heap.size ≤ g.blk ∨ Im ρ s g.blk)
  frame : ∀ k, k < w.heap.size → ¬ Im ρ s k → w1.heap[k]? = w.heap[k]?
  size : w.heap.size ≤ w1.heap.size
  next : s.next ≤ s1.next
  wf : WF s1
  old : ∀ b o, b < s.next → s1.get b = some o → isDead o = false → ∃ o', s.get b = some o' ∧ isDead o' = false
  os : w1.os = w.os
  out : w1.output = w.output
  tape : w1.tape = w.tape

theorem Out.refl {ρ : Ren} {s : St} {w : World} (h : R P ρ s w) (hw : WF s) : Out P ρ s w ρ s w :=
  ⟨.refl ρ, h, (fun b g h1 h2 => by rw [h1] at h2; cases h2), fun _ _ _ => rfl, Nat.le_refl _, Nat.le_refl _, hw, fun b o _ h1 h2 => ⟨o, h1, h2⟩, rfl, rfl, rfl⟩

theorem Out.im {ρ : Ren} {s : St} {w : World} {ρ1 : Ren} {s1 : St} {w1 : World} (h : Out P ρ s w ρ1 s1 w1)
    (hfree : ∀ b, s.next ≤ b → b < s1.next → ρ b = none) {k : Nat} (hk : Im ρ1 s1 k) : w.heap.size ≤ k ∨ Im ρ s k := by
  obtain ⟨b, g, o, h1, h2, h3, h4⟩ := hk
  cases hb : ρ b with
  | none =>
    obtain ⟨_, _, h6⟩ := h.new b g h1 hb
    exact h2 ▸ h6
  | some g0 =>
    have e : g0 = g := Option.some.inj ((h.le b g0 hb).symm.trans h1)
    subst e
    rcases Nat.lt_or_ge b s.next with hlt | hge
    · obtain ⟨o', h5, h6⟩ := h.old b o hlt h3 h4
      exact .inr ⟨b, g0, o', hb, h2, h5, h6⟩
    · rw [hfree b hge (h.wf.lt h3)] at hb; cases hb

theorem Out.trans {ρ : Ren} {s : St} {w : World} {ρ1 : Ren} {s1 : St} {w1 : World} {ρ2 : Ren} {s2 : St} {w2 : World}
    (h : Out P ρ s w ρ1 s1 w1) (h' : Out P ρ1 s1 w1 ρ2 s2 w2) (hfree : ∀ b, s.next ≤ b → b < s1.next → ρ b = none) : Out P ρ s w ρ2 s2 w2 where
  le := h.le.trans h'.le
  r := h'.r
  new := fun b g h1 h2 => by
    cases hb : ρ1 b with
    | none =>
      obtain ⟨h3, h4, h5⟩ := h'.new b g h1 hb
      refine ⟨Nat.le_trans h.next h3, h4, ?_⟩
      rcases h5 with h5 | h5
      · exact .inl (Nat.le_trans h.size h5)
      · exact h.im hfree h5
    | some g0 =>
      have e : g0 = g := Option.some.inj ((h'.le b g0 hb).symm.trans h1)
      subst e
      obtain ⟨h3, h4, h5⟩ := h.new b g0 hb h2
      exact ⟨h3, Nat.lt_of_lt_of_le h4 h'.next, h5⟩
  frame := fun k hk hn => by
    rw [h'.frame k (Nat.lt_of_lt_of_le hk h.size), h.frame k hk hn]
    intro hi
    rcases h.im hfree hi with h1 | h1
    · omega
    · exact hn h1
  size := Nat.le_trans h.size h'.size
  next := Nat.le_trans h.next h'.next
  wf := h'.wf
  old := fun b o hb h1 h2 => by
    obtain ⟨o1, h3, h4⟩ := h'.old b o (Nat.lt_of_lt_of_le hb h.next) h1 h2
    exact h.old b o1 hb h3 h4
  os := h'.os.trans h.os
  out := h'.out.trans h.out
  tape := h'.tape.trans h.tape

/-! ## Two runs that go side by side -/
/-- the same for a canonical run that is given as a function -/
def SimF (P : Program) {α β : Type} (F : St → Option (α × St)) (S' : Sem β) (ρ : Ren) (Post : Ren → α → β → Prop) : Prop :=
  ∀ (s : St) (w : World) (x : α) (s1 : St) (N : Nat), F s = some (x, s1) → R P ρ s w → WF s → s1.next ≤ N → N ≤ lim →
    (∀ b, s.next ≤ b → b < N → ρ b = none) →
    ∃ x' w1 ρ1, S'.run P w = .ok x' w1 ∧ Out P ρ s w ρ1 s1 w1 ∧ Post ρ1 x x'

/-- whatever the canonical run gives, the true one gives too, up to names -/
def Sim (P : Program) {α β : Type} (S : Sem α) (S' : Sem β) (ρ : Ren) (Post : Ren → α → β → Prop) : Prop :=
  ∀ (s : St) (w : World) (x : α) (s1 : St) (N : Nat), runC P S s = some (x, s1) → R P ρ s w → WF s → s1.next ≤ N → N ≤ lim →
    (∀ b, s.next ≤ b → b < N → ρ b = none) →
    ∃ x' w1 ρ1, S'.run P w = .ok x' w1 ∧ Out P ρ s w ρ1 s1 w1 ∧ Post ρ1 x x'

theorem runC_bind {α β : Type} (S : Sem α) (k : α → Sem β) : ∀ s, runC P (S >>= k) s = (runC P S s).bind fun (x, s1) => runC P (k x) s1 := by
  show ∀ s, runC P (S.bind k) s = _
  induction S with
  | pure a => intro s; rfl
  | load m a f ih => intro s; simp only [Sem.bind, runC]; split <;> simp_all
  | store m a v f ih => intro s; simp only [Sem.bind, runC]; split <;> (try split) <;> simp_all
  | new o f ih => intro s; simp only [Sem.bind, runC]; split <;> simp_all
  | shape r f ih => intro s; simp only [Sem.bind, runC]; split <;> simp_all
  | freeze a n f ih => intro s; rfl
  | frozen a f ih => intro s; rfl
  | getObj r f ih => intro s; simp only [Sem.bind, runC]; split <;> simp_all
  | setObj r o f ih => intro s; simp only [Sem.bind, runC]; split <;> simp_all
  | choose q f ih => intro s; simp only [Sem.bind, runC]; split <;> simp_all
  | sys c f ih => intro s; rfl
  | program f ih => intro s; simp only [Sem.bind, runC]; exact ih _ _
  | mark m f ih => intro s; simp only [Sem.bind, runC]; exact ih _
  | halt h => intro s; rfl

theorem run_bindA {α β : Type} (S : Sem α) (k : α → Sem β) : ∀ w, (S >>= k).run P w = match S.run P w with
    | .ok x w1 => (k x).run P w1
    | .halt h w1 => .halt h w1 := by
  show ∀ w, (S.bind k).run P w = _
  induction S with
  | pure a => intro w; rfl
  | load m a f ih => intro w; simp only [Sem.bind, Sem.run]; split <;> (try split) <;> simp_all
  | store m a v f ih =>
    intro w
    cases v <;> simp only [Sem.bind, Sem.run] <;> first | rfl | (split <;> (try split) <;> simp_all)
  | new o f ih => intro w; simp only [Sem.bind, Sem.run]; exact ih _ _
  | shape r f ih => intro w; simp only [Sem.bind, Sem.run]; exact ih _ _
  | freeze a n f ih => intro w; simp only [Sem.bind, Sem.run]; exact ih _
  | frozen a f ih => intro w; simp only [Sem.bind, Sem.run]; exact ih _ _
  | getObj r f ih => intro w; simp only [Sem.bind, Sem.run]; split <;> simp_all
  | setObj r o f ih => intro w; simp only [Sem.bind, Sem.run]; split <;> simp_all
  | choose q f ih => intro w; simp only [Sem.bind, Sem.run]; split <;> simp_all
  | sys c f ih => intro w; simp only [Sem.bind, Sem.run]; exact ih _ _
  | program f ih => intro w; simp only [Sem.bind, Sem.run]; exact ih _ _
  | mark m f ih => intro w; simp only [Sem.bind, Sem.run]; exact ih _
  | halt h => intro w; rfl

theorem runC_next {α : Type} (S : Sem α) : ∀ s x s1, runC P S s = some (x, s1) → s.next ≤ s1.next := by
  induction S with
  | pure a => intro s x s1 h; simp [runC] at h; rw [h.2]; exact Nat.le_refl _
  | load m a f ih =>
    intro s x s1 h; simp only [runC] at h; split at h
    · exact ih _ _ _ _ h
    · cases h
  | store m a v f ih =>
    intro s x s1 h; simp only [runC] at h; split at h
    · split at h
      · have := ih _ _ _ h; exact this
      · cases h
    · cases h
  | new o f ih =>
    intro s x s1 h; simp only [runC] at h; split at h
    · have := ih _ _ _ _ h; exact Nat.le_trans (Nat.le_succ _) this
    · cases h
  | shape r f ih =>
    intro s x s1 h; simp only [runC] at h; split at h <;> first | exact ih _ _ _ _ h | cases h
  | freeze a n f ih => intro s x s1 h; simp [runC] at h
  | frozen a f ih => intro s x s1 h; simp [runC] at h
  | getObj r f ih =>
    intro s x s1 h; simp only [runC] at h; split at h <;> first | exact ih _ _ _ _ h | cases h
  | setObj r o f ih =>
    intro s x s1 h; simp only [runC] at h; split at h <;> first | (have := ih _ _ _ h; exact this) | cases h
  | choose q f ih =>
    intro s x s1 h; simp only [runC] at h; split at h
    · exact ih _ _ _ _ h
    · cases h
  | sys c f ih => intro s x s1 h; simp [runC] at h
  | program f ih => intro s x s1 h; simp only [runC] at h; exact ih _ _ _ _ h
  | mark m f ih => intro s x s1 h; simp only [runC] at h; exact ih _ _ _ h
  | halt h => intro s x s1 h; simp [runC] at h

theorem sem_bind_assoc {α β γ : Type} (S : Sem α) (f : α → Sem β) (g : β → Sem γ) : (S.bind f).bind g = S.bind fun x => (f x).bind g := by
  induction S with
  | pure a => rfl
  | load m a k ih => simp only [Sem.bind]; congr 1; funext x; exact ih x
  | store m a v k ih => simp only [Sem.bind]; rw [ih]
  | new o k ih => simp only [Sem.bind]; congr 1; funext x; exact ih x
  | shape r k ih => simp only [Sem.bind]; congr 1; funext x; exact ih x
  | freeze a n k ih => simp only [Sem.bind]; rw [ih]
  | frozen a k ih => simp only [Sem.bind]; congr 1; funext x; exact ih x
  | getObj r k ih => simp only [Sem.bind]; congr 1; funext x; exact ih x
  | setObj r o k ih => simp only [Sem.bind]; rw [ih]
  | choose q k ih => simp only [Sem.bind]; congr 1; funext x; exact ih x
  | sys c k ih => simp only [Sem.bind]; congr 1; funext x; exact ih x
  | program k ih => simp only [Sem.bind]; congr 1; funext x; exact ih x
  | mark m k ih => simp only [Sem.bind]; rw [ih]
  | halt h => rfl

theorem sem_bind_pure {α : Type} (S : Sem α) : S.bind .pure = S := by
  induction S with
  | pure a => rfl
  | load m a k ih => simp only [Sem.bind]; congr 1; funext x; exact ih x
  | store m a v k ih => simp only [Sem.bind]; rw [ih]
  | new o k ih => simp only [Sem.bind]; congr 1; funext x; exact ih x
  | shape r k ih => simp only [Sem.bind]; congr 1; funext x; exact ih x
  | freeze a n k ih => simp only [Sem.bind]; rw [ih]
  | frozen a k ih => simp only [Sem.bind]; congr 1; funext x; exact ih x
  | getObj r k ih => simp only [Sem.bind]; congr 1; funext x; exact ih x
  | setObj r o k ih => simp only [Sem.bind]; rw [ih]
  | choose q k ih => simp only [Sem.bind]; congr 1; funext x; exact ih x
  | sys c k ih => simp only [Sem.bind]; congr 1; funext x; exact ih x
  | program k ih => simp only [Sem.bind]; congr 1; funext x; exact ih x
  | mark m k ih => simp only [Sem.bind]; rw [ih]
  | halt h => rfl


theorem Sim.pure {α β : Type} {ρ : Ren} {Post : Ren → α → β → Prop} {x : α} {x' : β} (h : Post ρ x x') : Sim P (Pure.pure x : Sem α) (Pure.pure x' : Sem β) ρ Post := by
  intro s w y s1 N hr hR hw _ _ _
  have : runC P (Pure.pure x : Sem α) s = some (x, s) := rfl
  rw [this] at hr; cases hr
  exact ⟨x', w, ρ, rfl, .refl hR hw, h⟩

theorem Sim.bind {α β γ δ : Type} {ρ : Ren} {S : Sem α} {S' : Sem β} {k : α → Sem γ} {k' : β → Sem δ} {Mid : Ren → α → β → Prop} {Post : Ren → γ → δ → Prop}
    (h : Sim P S S' ρ Mid) (hk : ∀ ρ1 x x', Le ρ ρ1 → Mid ρ1 x x' → Sim P (k x) (k' x') ρ1 Post) : Sim P (S >>= k) (S' >>= k') ρ Post := by
  intro s w y s2 N hr hR hw hN hl hfree
  rw [runC_bind] at hr
  cases h1 : runC P S s with
  | none => rw [h1] at hr; cases hr
  | some p =>
    obtain ⟨x, s1⟩ := p
    rw [h1] at hr
    have hr' : runC P (k x) s1 = some (y, s2) := hr
    have hn := runC_next _ _ _ _ hr'
    obtain ⟨x', w1, ρ1, e1, o1, m1⟩ := h s w x s1 N h1 hR hw (Nat.le_trans hn hN) hl hfree
    obtain ⟨y', w2, ρ2, e2, o2, p2⟩ := hk ρ1 x x' o1.le m1 s1 w1 y s2 N hr' o1.r o1.wf hN hl (fun b hb hbN => by
      cases hc : ρ1 b with
      | none => rfl
      | some g =>
        obtain ⟨_, h4, _⟩ := o1.new b g hc (hfree b (Nat.le_trans o1.next hb) hbN)
        omega)
    exact ⟨y', w2, ρ2, by rw [run_bindA, e1]; exact e2, o1.trans o2 (fun b hb hb1 => hfree b hb (by omega)), p2⟩

theorem Sim.mono {α β : Type} {ρ : Ren} {S : Sem α} {S' : Sem β} {Post Post' : Ren → α → β → Prop} (h : Sim P S S' ρ Post)
    (hp : ∀ ρ1 x x', Le ρ ρ1 → Post ρ1 x x' → Post' ρ1 x x') : Sim P S S' ρ Post' := by
  intro s w x s1 N hr hR hw hN hl hfree
  obtain ⟨x', w1, ρ1, e, o, p⟩ := h s w x s1 N hr hR hw hN hl hfree
  exact ⟨x', w1, ρ1, e, o, hp _ _ _ o.le p⟩

theorem Sim.halt {α β : Type} {ρ : Ren} {Post : Ren → α → β → Prop} {h : Halt} {S' : Sem β} : Sim P (Sem.halt h : Sem α) S' ρ Post := by
  intro s w x s1 N hr; simp [runC] at hr

theorem Sim.program {α β : Type} {ρ : Ren} {Post : Ren → α → β → Prop} {k : Program → Sem α} {k' : Program → Sem β} (h : Sim P (k P) (k' P) ρ Post) :
    Sim P (Go.program >>= k) (Go.program >>= k') ρ Post := fun s w x s1 N hr => h s w x s1 N hr

theorem Sim.mark {α β : Type} {ρ : Ren} {Post : Ren → α → β → Prop} {m m' : Mark} {S : Sem α} {S' : Sem β} (h : Sim P S S' ρ Post) :
    Sim P (Go.mark m >>= fun _ => S) (Go.mark m' >>= fun _ => S') ρ Post := fun s w x s1 N hr => h s w x s1 N hr

/-- the same pure run on both sides -/
theorem Sim.same {α : Type} {ρ : Ren} {S : Sem α} (h : ∀ s x s1, runC P S s = some (x, s1) → s1 = s ∧ ∀ w, S.run P w = .ok x w) : Sim P S S ρ fun _ x x' => x = x' := by
  intro s w x s1 N hr hR hw _ _ _
  obtain ⟨rfl, h2⟩ := h s x s1 hr
  exact ⟨x, w, ρ, h2 w, .refl hR hw, rfl⟩

/-! ## The effects -/
theorem cell_of {ρ : Ren} {s : St} {w : World} (hR : R P ρ s w) {a : Addr} {g : G} (hg : ρ a.block = some g) {v : Value} (h : s.cell a = some v) :
    ∃ v', w.cell? ⟨g.blk, a.off, a.spot⟩ = some v' ∧ VR P ρ v v' ∧ a.spot = none := by
  unfold St.cell at h
  split at h
  · rename_i c e fr hc
    split at h
    · cases h
    · rename_i hs
      have ho := hR.obj a.block g _ hg hc
      unfold OR at ho
      split at ho
      · rename_i c1 e1 f1 c2 e2 f2 heq1 heq2
        cases heq1
        obtain ⟨_, _, _, _, _, _, _, h7⟩ := ho
        obtain ⟨v', h8, h9⟩ := h7 _ _ h
        refine ⟨v', ?_, h9, by simpa using hs⟩
        unfold World.cell?
        simp only [heq2]
        rw [if_neg hs]; exact h8
      · rename_i heq _; cases heq
      · rename_i heq _; cases heq
      · rename_i heq _; cases heq
      · simp [isDead] at ho
  · cases h

theorem sim_load {ρ : Ren} {a : Addr} {g : G} {m : Mode} (hg : ρ a.block = some g) : Sim P (Go.load a m) (Go.load ⟨g.blk, a.off, a.spot⟩ m) ρ (fun ρ1 => VR P ρ1) := by
  intro s w x s1 N hr hR hw _ _ _
  unfold Go.load at *
  simp only [runC] at hr
  cases hc : s.cell a with
  | none => rw [hc] at hr; cases hr
  | some v =>
    rw [hc] at hr; cases hr
    obtain ⟨v', h1, h2, _⟩ := cell_of hR hg hc
    exact ⟨v', w, ρ, by simp [Sem.run, h1], .refl hR hw, h2⟩

theorem Out.of_put {ρ : Ren} {s : St} {w w1 : World} {b : Nat} {g : G} {o o1 : Obj} (hR : R P ρ s w) (hw : WF s) (hg : ρ b = some g) (ho : s.get b = some o) (hd : isDead o = false)
    (_hd1 : isDead o1 = false) (hsz : w1.heap.size = w.heap.size) (hat : OR P ρ g o1 w1.heap[g.blk]?) (hoth : ∀ k, k ≠ g.blk → w1.heap[k]? = w.heap[k]?)
    (h1 : w1.os = w.os) (h2 : w1.output = w.output) (h3 : w1.tape = w.tape) : Out P ρ s w ρ (s.put b o1) w1 := by
  have hlt := hw.lt ho
  refine ⟨.refl ρ, ⟨fun b' g' hb' => hsz ▸ hR.lt b' g' hb', ?_, ?_⟩, (fun b' g' e1 e2 => by rw [e1] at e2; cases e2), ?_, Nat.le_of_eq hsz.symm, Nat.le_refl _, hw.put hlt _, ?_, h1, h2, h3⟩
  · intro x y gx gy ox oy hx hy hox hoy dx dy hk
    have fix : ∀ z oz, (s.put b o1).get z = some oz → isDead oz = false → ∃ o', s.get z = some o' ∧ isDead o' = false := by
      intro z oz hz dz
      by_cases hbz : b = z
      · subst hbz; exact ⟨o, ho, hd⟩
      · rw [St.get_put_ne o1 hbz] at hz; exact ⟨oz, hz, dz⟩
    obtain ⟨o', h4, h5⟩ := fix x ox hox dx
    obtain ⟨o'', h6, h7⟩ := fix y oy hoy dy
    exact hR.inj x y gx gy o' o'' hx hy h4 h6 h5 h7 hk
  · intro x gx ox hx hox
    by_cases hbx : b = x
    · subst hbx
      rw [St.get_put_same hw hlt] at hox; cases hox
      have e : g = gx := Option.some.inj (hg.symm.trans hx)
      subst e; exact hat
    · rw [St.get_put_ne o1 hbx] at hox
      cases hdx : isDead ox with
      | true => exact .of_dead hdx
      | false =>
        have : gx.blk ≠ g.blk := fun hk => hbx (hR.inj b x g gx o ox hg hx ho hox hd hdx hk.symm)
        rw [hoth _ this]; exact hR.obj x gx ox hx hox
  · intro k _ hn
    exact hoth k fun hk => hn ⟨b, g, o, hg, hk.symm, ho, hd⟩
  · intro b' o' _ h4 h5
    by_cases hbx : b = b'
    · subst hbx; exact ⟨o, ho, hd⟩
    · rw [St.get_put_ne o1 hbx] at h4; exact ⟨o', h4, h5⟩

theorem sim_store {ρ : Ren} {a : Addr} {g : G} {m : Mode} {v v' : Value} (hg : ρ a.block = some g) (hv : VR P ρ v v') :
    Sim P (Go.store a v m) (Go.store ⟨g.blk, a.off, a.spot⟩ v' m) ρ (fun _ _ _ => True) := by
  intro s w x s1 N hr hR hw _ _ _
  unfold Go.store at *
  simp only [runC] at hr
  split at hr
  · rename_i c e fr hc
    split at hr
    · rename_i hcond
      cases hr
      simp only [Bool.and_eq_true, decide_eq_true_eq] at hcond
      obtain ⟨⟨h1, h2⟩, h3⟩ := hcond
      have hs : a.spot = none := by simpa using h2
      have ho := hR.obj a.block g _ hg hc
      unfold OR at ho
      split at ho
      · rename_i c1 e1 f1 c2 e2 f2 heq1 heq2
        cases heq1
        obtain ⟨q0, q1, q2, q3, q4, q5, q6, q7⟩ := ho
        subst q0
        have hone : isOneCell v' = true := hv.oneCell.trans h1
        have hcell : ∃ u, w.cell? ⟨g.blk, a.off, a.spot⟩ = some u := by
          refine ⟨c2[a.off]'(by omega), ?_⟩
          unfold World.cell?; simp [heq2, hs, show a.off < c2.size by omega]
        obtain ⟨u, hu⟩ := hcell
        have hfz : w.frozen? ⟨g.blk, a.off, a.spot⟩ = false := by
          unfold World.frozen?; simp only [heq2]
          have := q6 a.off (by omega)
          simpa using this
        have hrun : (Sem.store m ⟨g.blk, a.off, a.spot⟩ v' (.pure ())).run P w = .ok () (w.setCell ⟨g.blk, a.off, a.spot⟩ v') := by
          cases v' <;> simp [isOneCell] at hone <;> simp [Sem.run, hu, hfz]
        have hheap : (w.setCell ⟨g.blk, a.off, a.spot⟩ v').heap = w.heap.modify g.blk fun
            | .cells c elem frozen => .cells (if a.spot.isSome then c else c.setIfInBounds a.off v') elem frozen
            | o => o := rfl
        have hblt := hR.lt _ _ hg
        refine ⟨(), _, ρ, hrun, Out.of_put hR hw hg hc rfl rfl (by rw [hheap]; simp) ?_ ?_ rfl rfl rfl, trivial⟩
        · rw [hheap, Array.getElem?_modify, if_pos rfl, heq2]
          simp only [Option.map_some, hs, Option.isSome_none, Bool.false_eq_true, if_false]
          simp only [OR]
          refine ⟨trivial, q1, q2, by simpa using q3, by simpa using q4, by simpa using q5, by simpa using q6, fun i y hy => ?_⟩
          rw [Array.getElem?_setIfInBounds] at hy ⊢
          by_cases hi : a.off = i
          · rw [if_pos hi, if_pos h3] at hy
            rw [if_pos hi, if_pos (show a.off < c2.size by omega)]
            cases hy; exact ⟨v', rfl, hv⟩
          · rw [if_neg hi] at hy ⊢; exact q7 i y hy
        · intro k hk
          rw [hheap, Array.getElem?_modify, if_neg (fun h => hk h.symm)]
      · rename_i heq _; cases heq
      · rename_i heq _; cases heq
      · rename_i heq _; cases heq
      · simp [isDead] at ho
    · cases hr
  · cases hr

/-- a new object: what is known of it lies there -/
theorem Out.of_push {ρ : Ren} {s : St} {w : World} {o o' : Obj} {g : G} (hR : R P ρ s w) (hw : WF s) (hl : s.next + 1 ≤ lim) (hfree : ρ s.next = none) (_hd : isDead o = false)
    (hb : g.blk = w.heap.size) (ho : OR P ρ g o (some o')) :
    Out P ρ s w (fun b => if b = s.next then some g else ρ b) (s.push o) { w with heap := w.heap.push o' } := by
  have hle : Le ρ (fun b => if b = s.next then some g else ρ b) := fun b g' h => by
    show (if b = s.next then some g else ρ b) = some g'
    rw [if_neg (fun hb => by subst hb; rw [hfree] at h; cases h)]; exact h
  have hnone := hw.none s.next (Nat.le_refl _)
  refine ⟨hle, ⟨?_, ?_, ?_⟩, ?_, ?_, by simp, Nat.le_succ _, hw.push hl _, ?_, rfl, rfl, rfl⟩
  · intro b g' h
    replace h : (if b = s.next then some g else ρ b) = some g' := h
    split at h
    · cases h; simp [hb]
    · have := hR.lt b g' h; simp; omega
  · intro x y gx gy ox oy hx hy hox hoy dx dy hk
    replace hx : (if x = s.next then some g else ρ x) = some gx := hx
    replace hy : (if y = s.next then some g else ρ y) = some gy := hy
    split at hx <;> split at hy
    · rename_i h1 h2; omega
    · rename_i h1 h2; cases hx; have := hR.lt y gy hy; omega
    · rename_i h1 h2; cases hy; have := hR.lt x gx hx; omega
    · rename_i h1 h2
      rw [St.get_push_ne o (fun h => h1 h.symm)] at hox
      rw [St.get_push_ne o (fun h => h2 h.symm)] at hoy
      exact hR.inj x y gx gy ox oy hx hy hox hoy dx dy hk
  · intro x gx ox hx hox
    replace hx : (if x = s.next then some g else ρ x) = some gx := hx
    split at hx
    · rename_i h1; cases hx; subst h1
      rw [St.get_push_same hw.le] at hox; cases hox
      simp only [hb, Array.getElem?_push_size]
      exact ho.mono hle
    · rename_i h1
      rw [St.get_push_ne o (fun h => h1 h.symm)] at hox
      have := hR.lt x gx hx
      rw [Array.getElem?_push, if_neg (by omega)]
      exact (hR.obj x gx ox hx hox).mono hle
  · intro b g' h1 h2
    replace h1 : (if b = s.next then some g else ρ b) = some g' := h1
    split at h1
    · rename_i h3; cases h1; subst h3
      exact ⟨Nat.le_refl _, Nat.lt_succ_self _, .inl (Nat.le_of_eq hb.symm)⟩
    · rw [h1] at h2; cases h2
  · intro k hk _
    rw [Array.getElem?_push, if_neg (by omega)]
  · intro b o1 hb1 h1 h2
    rw [St.get_push_ne o (by omega)] at h1
    exact ⟨o1, h1, h2⟩

/-- a name for a new object -/
def NewAt (ρ1 : Ren) (b b' : Nat) : Prop := ∃ g, ρ1 b = some g ∧ g.blk = b'

theorem sim_newRow {ρ : Ren} {e : TypeId} {c c' : Array Value} (hc : VRs P ρ c c') : Sim P (Go.newRow e c) (Go.newRow e c') ρ
    (fun ρ1 a a' => ∃ g, ρ1 a.block = some g ∧ a' = ⟨g.blk, a.off, a.spot⟩ ∧ a.off = 0 ∧ a.spot = none ∧ g.n = c.size ∧ g.m = c'.size ∧ g.e = e) := by
  intro s w x s1 N hr hR hw hN hl hfree
  have h0 : runC P (Go.newRow e c) s = some (⟨s.next, 0, none⟩, s.push (.cells c e (0, 0))) := rfl
  rw [h0] at hr; cases hr
  have h1 : (Go.newRow e c').run P w = .ok ⟨w.heap.size, 0, none⟩ { w with heap := w.heap.push (.cells c' e (0, 0)) } := rfl
  have hN' : s.next + 1 ≤ N := hN
  refine ⟨_, _, _, h1, Out.of_push (g := ⟨w.heap.size, c.size, c'.size, e⟩) hR hw (by omega) (hfree _ (Nat.le_refl _) (by omega)) rfl rfl ?_, ⟨w.heap.size, c.size, c'.size, e⟩, by simp, by simp, rfl, rfl, rfl, rfl, rfl⟩
  simp only [OR]
  exact ⟨trivial, trivial, trivial, trivial, trivial, Nat.le_of_eq hc.size, fun i _ h => by omega, fun i v h => hc.get h⟩

end Go.Am
