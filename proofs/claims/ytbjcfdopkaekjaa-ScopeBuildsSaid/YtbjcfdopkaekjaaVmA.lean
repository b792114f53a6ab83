/- What is defined: an abstract machine over numbered objects, for the calls of one program; no theorem of the program. -/
import Derived.Below
import Derived.Tactics
import Derived.Control
import Derived.ScopeJumps
import Derived.Laws.Cells
import Derived.Laws.Rows
import Derived.Laws.Slices
import Derived.Laws.Entries
import Derived.Laws.AppendOwn
import Derived.Laws.LoneSync
import Derived.Deep.Draws
import Derived.Deep.MidRow
import Derived.IntWalk
namespace Go.Vm

/-! ### Values: equality decided, values without an address -/
mutual
def decV : (a b : Value) → Decidable (a = b)
  | .bool a, b => match b with
    | .bool b => if h : a = b then isTrue (by rw [h]) else isFalse (by intro e; injection e; exact h ‹_›)
    | .int .. | .float .. | .complex .. | .string .. | .pointer .. | .slice .. | .map .. | .chan .. | .func .. | .nilFunc | .iface .. | .nilIface | .agg .. | .tuple .. => isFalse (by intro e; cases e)
  | .int k a, b => match b with
    | .int k' b => if h : k = k' ∧ a = b then isTrue (by rw [h.1, h.2]) else isFalse (by intro e; injection e with e1 e2; exact h ⟨e1, e2⟩)
    | .bool .. | .float .. | .complex .. | .string .. | .pointer .. | .slice .. | .map .. | .chan .. | .func .. | .nilFunc | .iface .. | .nilIface | .agg .. | .tuple .. => isFalse (by intro e; cases e)
  | .float k a, b => match b with
    | .float k' b => if h : k = k' ∧ a = b then isTrue (by rw [h.1, h.2]) else isFalse (by intro e; injection e with e1 e2; exact h ⟨e1, e2⟩)
    | .bool .. | .int .. | .complex .. | .string .. | .pointer .. | .slice .. | .map .. | .chan .. | .func .. | .nilFunc | .iface .. | .nilIface | .agg .. | .tuple .. => isFalse (by intro e; cases e)
  | .complex k a c, b => match b with
    | .complex k' b d => if h : k = k' ∧ a = b ∧ c = d then isTrue (by rw [h.1, h.2.1, h.2.2]) else isFalse (by intro e; injection e with e1 e2 e3; exact h ⟨e1, e2, e3⟩)
    | .bool .. | .int .. | .float .. | .string .. | .pointer .. | .slice .. | .map .. | .chan .. | .func .. | .nilFunc | .iface .. | .nilIface | .agg .. | .tuple .. => isFalse (by intro e; cases e)
  | .string a, b => match b with
    | .string b => if h : a = b then isTrue (by rw [h]) else isFalse (by intro e; injection e; exact h ‹_›)
    | .bool .. | .int .. | .float .. | .complex .. | .pointer .. | .slice .. | .map .. | .chan .. | .func .. | .nilFunc | .iface .. | .nilIface | .agg .. | .tuple .. => isFalse (by intro e; cases e)
  | .pointer a, b => match b with
    | .pointer b => if h : a = b then isTrue (by rw [h]) else isFalse (by intro e; injection e; exact h ‹_›)
    | .bool .. | .int .. | .float .. | .complex .. | .string .. | .slice .. | .map .. | .chan .. | .func .. | .nilFunc | .iface .. | .nilIface | .agg .. | .tuple .. => isFalse (by intro e; cases e)
  | .slice a l c, b => match b with
    | .slice b l' c' => if h : a = b ∧ l = l' ∧ c = c' then isTrue (by rw [h.1, h.2.1, h.2.2]) else isFalse (by intro e; injection e with e1 e2 e3; exact h ⟨e1, e2, e3⟩)
    | .bool .. | .int .. | .float .. | .complex .. | .string .. | .pointer .. | .map .. | .chan .. | .func .. | .nilFunc | .iface .. | .nilIface | .agg .. | .tuple .. => isFalse (by intro e; cases e)
  | .map a, b => match b with
    | .map b => if h : a = b then isTrue (by rw [h]) else isFalse (by intro e; injection e; exact h ‹_›)
    | .bool .. | .int .. | .float .. | .complex .. | .string .. | .pointer .. | .slice .. | .chan .. | .func .. | .nilFunc | .iface .. | .nilIface | .agg .. | .tuple .. => isFalse (by intro e; cases e)
  | .chan a, b => match b with
    | .chan b => if h : a = b then isTrue (by rw [h]) else isFalse (by intro e; injection e; exact h ‹_›)
    | .bool .. | .int .. | .float .. | .complex .. | .string .. | .pointer .. | .slice .. | .map .. | .func .. | .nilFunc | .iface .. | .nilIface | .agg .. | .tuple .. => isFalse (by intro e; cases e)
  | .func f x y, b => match b with
    | .func g u v =>
      if h : f = g then
        match decA x u, decA y v with
        | isTrue h1, isTrue h2 => isTrue (by rw [h, h1, h2])
        | isFalse h1, _ => isFalse (by intro e; injection e; exact h1 ‹_›)
        | _, isFalse h2 => isFalse (by intro e; injection e; exact h2 ‹_›)
      else isFalse (by intro e; injection e; exact h ‹_›)
    | .bool .. | .int .. | .float .. | .complex .. | .string .. | .pointer .. | .slice .. | .map .. | .chan .. | .nilFunc | .iface .. | .nilIface | .agg .. | .tuple .. => isFalse (by intro e; cases e)
  | .nilFunc, b => match b with
    | .nilFunc => isTrue rfl
    | .bool .. | .int .. | .float .. | .complex .. | .string .. | .pointer .. | .slice .. | .map .. | .chan .. | .func .. | .iface .. | .nilIface | .agg .. | .tuple .. => isFalse (by intro e; cases e)
  | .iface t x, b => match b with
    | .iface u y =>
      if h : t = u then
        match decV x y with
        | isTrue h1 => isTrue (by rw [h, h1])
        | isFalse h1 => isFalse (by intro e; injection e; exact h1 ‹_›)
      else isFalse (by intro e; injection e; exact h ‹_›)
    | .bool .. | .int .. | .float .. | .complex .. | .string .. | .pointer .. | .slice .. | .map .. | .chan .. | .func .. | .nilFunc | .nilIface | .agg .. | .tuple .. => isFalse (by intro e; cases e)
  | .nilIface, b => match b with
    | .nilIface => isTrue rfl
    | .bool .. | .int .. | .float .. | .complex .. | .string .. | .pointer .. | .slice .. | .map .. | .chan .. | .func .. | .nilFunc | .iface .. | .agg .. | .tuple .. => isFalse (by intro e; cases e)
  | .agg x, b => match b with
    | .agg y => match decA x y with
      | isTrue h => isTrue (by rw [h])
      | isFalse h => isFalse (by intro e; injection e; exact h ‹_›)
    | .bool .. | .int .. | .float .. | .complex .. | .string .. | .pointer .. | .slice .. | .map .. | .chan .. | .func .. | .nilFunc | .iface .. | .nilIface | .tuple .. => isFalse (by intro e; cases e)
  | .tuple x, b => match b with
    | .tuple y => match decA x y with
      | isTrue h => isTrue (by rw [h])
      | isFalse h => isFalse (by intro e; injection e; exact h ‹_›)
    | .bool .. | .int .. | .float .. | .complex .. | .string .. | .pointer .. | .slice .. | .map .. | .chan .. | .func .. | .nilFunc | .iface .. | .nilIface | .agg .. => isFalse (by intro e; cases e)
def decA : (a b : Array Value) → Decidable (a = b)
  | ⟨x⟩, ⟨y⟩ => match decL x y with
    | isTrue h => isTrue (by rw [h])
    | isFalse h => isFalse (by intro e; injection e; exact h ‹_›)
def decL : (a b : List Value) → Decidable (a = b)
  | [], [] => isTrue rfl
  | [], _ :: _ => isFalse (by intro e; cases e)
  | _ :: _, [] => isFalse (by intro e; cases e)
  | x :: xs, y :: ys => match decV x y, decL xs ys with
    | isTrue h1, isTrue h2 => isTrue (by rw [h1, h2])
    | isFalse h1, _ => isFalse (by intro e; injection e; exact h1 ‹_›)
    | _, isFalse h2 => isFalse (by intro e; injection e; exact h2 ‹_›)
end
instance : DecidableEq Value := decV
end Go.Vm

namespace Go.Vm
def oneL : List Value → Bool
  | [] => true
  | v :: vs => v.oneCell' && oneL vs
def oneA (x : Array Value) : Bool := oneL x.toList
mutual
/-- No address inside. -/
def ground : Value → Bool
  | .bool _ | .int .. | .float .. | .complex .. | .string _ | .nilFunc | .nilIface => true
  | .pointer a => a.isNone
  | .slice a _ _ => a.isNone
  | .map a => a.isNone
  | .chan a => a.isNone
  | .func _ x y => groundA x && groundA y
  | .iface _ x => ground x
  | .agg x => groundA x && oneA x
  | .tuple x => groundA x
def groundA : Array Value → Bool
  | ⟨x⟩ => groundL x
def groundL : List Value → Bool
  | [] => true
  | x :: xs => ground x && groundL xs
end

/-! ### Objects and the heap of objects -/
inductive AObj where
  | row (own : Bool) (tail es : Nat) (cs : List Value)
  | map (es : List (Value × Value))
  | siter (s : ByteArray) (pos : Nat)
  | unit (e : TypeId)
  | dead
  deriving Inhabited

inductive Tr where
  | leaf
  | node (o : AObj) (l r : Tr)

def Tr.get : Tr → Nat → AObj
  | .leaf, _ => .dead
  | .node o l r, i =>
    match Nat.beq i 0 with
    | true => o
    | false => match Nat.beq (i % 2) 1 with
      | true => l.get (i / 2)
      | false => r.get (i / 2 - 1)

def Tr.set : Nat → Tr → Nat → AObj → Tr
  | 0, t, _, _ => t
  | f + 1, .leaf, i, o =>
    match Nat.beq i 0 with
    | true => .node o .leaf .leaf
    | false => match Nat.beq (i % 2) 1 with
      | true => .node .dead (Tr.set f .leaf (i / 2) o) .leaf
      | false => .node .dead .leaf (Tr.set f .leaf (i / 2 - 1) o)
  | f + 1, .node p l r, i, o =>
    match Nat.beq i 0 with
    | true => .node o l r
    | false => match Nat.beq (i % 2) 1 with
      | true => .node p (Tr.set f l (i / 2) o) r
      | false => .node p l (Tr.set f r (i / 2 - 1) o)

theorem Tr.get_set (o : AObj) : ∀ (f : Nat) (t : Tr) (i j : Nat), i < f → (Tr.set f t i o).get j = if j = i then o else t.get j := by
  intro f
  induction f with
  | zero => intro t i j h; omega
  | succ f ih =>
    intro t i j h
    cases t with
    | leaf =>
      unfold Tr.set
      cases hi : Nat.beq i 0 with
      | true =>
        have hi0 : i = 0 := Nat.eq_of_beq_eq_true hi
        subst hi0
        simp only [Tr.get]
        cases hj : Nat.beq j 0 with
        | true => have := Nat.eq_of_beq_eq_true hj; subst this; simp
        | false => have : j ≠ 0 := Nat.ne_of_beq_eq_false hj; simp [this]; split <;> rfl
      | false =>
        have hi0 : i ≠ 0 := Nat.ne_of_beq_eq_false hi
        cases hp : Nat.beq (i % 2) 1 with
        | true =>
          have hp1 : i % 2 = 1 := Nat.eq_of_beq_eq_true hp
          simp only [Tr.get]
          cases hj : Nat.beq j 0 with
          | true => have := Nat.eq_of_beq_eq_true hj; subst this; rw [if_neg (by omega)]
          | false =>
            have hj0 : j ≠ 0 := Nat.ne_of_beq_eq_false hj
            cases hq : Nat.beq (j % 2) 1 with
            | true =>
              have hq1 : j % 2 = 1 := Nat.eq_of_beq_eq_true hq
              simp only [ih _ _ (j / 2) (show i / 2 < f by omega), Tr.get]
              by_cases e : j = i
              · rw [if_pos (by omega), if_pos e]
              · rw [if_neg (by omega), if_neg e]
            | false =>
              have hq1 : j % 2 ≠ 1 := Nat.ne_of_beq_eq_false hq
              rw [if_neg (by omega)]
        | false =>
          have hp1 : i % 2 ≠ 1 := Nat.ne_of_beq_eq_false hp
          simp only [Tr.get]
          cases hj : Nat.beq j 0 with
          | true => have := Nat.eq_of_beq_eq_true hj; subst this; rw [if_neg (by omega)]
          | false =>
            have hj0 : j ≠ 0 := Nat.ne_of_beq_eq_false hj
            cases hq : Nat.beq (j % 2) 1 with
            | true =>
              have hq1 : j % 2 = 1 := Nat.eq_of_beq_eq_true hq
              rw [if_neg (by omega)]
            | false =>
              have hq1 : j % 2 ≠ 1 := Nat.ne_of_beq_eq_false hq
              simp only [ih _ _ (j / 2 - 1) (show i / 2 - 1 < f by omega), Tr.get]
              by_cases e : j = i
              · rw [if_pos (by omega), if_pos e]
              · rw [if_neg (by omega), if_neg e]
    | node p l r =>
      unfold Tr.set
      cases hi : Nat.beq i 0 with
      | true =>
        have hi0 : i = 0 := Nat.eq_of_beq_eq_true hi
        subst hi0
        simp only [Tr.get]
        cases hj : Nat.beq j 0 with
        | true => have := Nat.eq_of_beq_eq_true hj; subst this; simp
        | false => have : j ≠ 0 := Nat.ne_of_beq_eq_false hj; simp [this]
      | false =>
        have hi0 : i ≠ 0 := Nat.ne_of_beq_eq_false hi
        cases hp : Nat.beq (i % 2) 1 with
        | true =>
          have hp1 : i % 2 = 1 := Nat.eq_of_beq_eq_true hp
          simp only [Tr.get]
          cases hj : Nat.beq j 0 with
          | true => have := Nat.eq_of_beq_eq_true hj; subst this; rw [if_neg (by omega)]
          | false =>
            have hj0 : j ≠ 0 := Nat.ne_of_beq_eq_false hj
            cases hq : Nat.beq (j % 2) 1 with
            | true =>
              have hq1 : j % 2 = 1 := Nat.eq_of_beq_eq_true hq
              simp only [ih _ _ (j / 2) (show i / 2 < f by omega)]
              by_cases e : j = i
              · rw [if_pos (by omega), if_pos e]
              · rw [if_neg (by omega), if_neg e]
            | false =>
              have hq1 : j % 2 ≠ 1 := Nat.ne_of_beq_eq_false hq
              rw [if_neg (by omega)]
        | false =>
          have hp1 : i % 2 ≠ 1 := Nat.ne_of_beq_eq_false hp
          simp only [Tr.get]
          cases hj : Nat.beq j 0 with
          | true => have := Nat.eq_of_beq_eq_true hj; subst this; rw [if_neg (by omega)]
          | false =>
            have hj0 : j ≠ 0 := Nat.ne_of_beq_eq_false hj
            cases hq : Nat.beq (j % 2) 1 with
            | true =>
              have hq1 : j % 2 = 1 := Nat.eq_of_beq_eq_true hq
              rw [if_neg (by omega)]
            | false =>
              have hq1 : j % 2 ≠ 1 := Nat.ne_of_beq_eq_false hq
              simp only [ih _ _ (j / 2 - 1) (show i / 2 - 1 < f by omega)]
              by_cases e : j = i
              · rw [if_pos (by omega), if_pos e]
              · rw [if_neg (by omega), if_neg e]

structure Heap where
  n : Nat
  t : Tr

def Heap.empty : Heap := ⟨0, .leaf⟩
def Heap.get (H : Heap) (i : Nat) : AObj := match Nat.blt i H.n with | true => H.t.get i | false => .dead
def Heap.set (H : Heap) (i : Nat) (o : AObj) : Heap := ⟨H.n, Tr.set (i + 1) H.t i o⟩
def Heap.push (H : Heap) (o : AObj) : Heap := ⟨H.n + 1, Tr.set (H.n + 1) H.t H.n o⟩

theorem Heap.get_of_ge {H : Heap} {i : Nat} (h : H.n ≤ i) : H.get i = .dead := by
  unfold Heap.get
  have : Nat.blt i H.n = false := by
    cases hb : Nat.blt i H.n with
    | false => rfl
    | true => simp [Nat.blt, Nat.ble_eq] at hb; omega
  rw [this]
theorem Heap.get_of_lt {H : Heap} {i : Nat} (h : i < H.n) : H.get i = H.t.get i := by
  unfold Heap.get
  have : Nat.blt i H.n = true := by simp [Nat.blt, Nat.ble_eq]; omega
  rw [this]
@[simp] theorem Heap.n_set (H : Heap) (i : Nat) (o : AObj) : (H.set i o).n = H.n := rfl
@[simp] theorem Heap.n_push (H : Heap) (o : AObj) : (H.push o).n = H.n + 1 := rfl
theorem Heap.get_set (H : Heap) (i : Nat) (o : AObj) (hi : i < H.n) (j : Nat) : (H.set i o).get j = if j = i then o else H.get j := by
  by_cases hj : j < H.n
  · rw [Heap.get_of_lt (H := H.set i o) hj, Heap.get_of_lt hj]
    exact Tr.get_set o _ _ _ _ (by omega)
  · rw [Heap.get_of_ge (H := H.set i o) (by simp; omega), Heap.get_of_ge (by omega), if_neg (by omega)]
theorem Heap.get_push (H : Heap) (o : AObj) (j : Nat) : (H.push o).get j = if j = H.n then o else H.get j := by
  by_cases hj : j < H.n + 1
  · rw [Heap.get_of_lt (H := H.push o) hj]
    show (Tr.set (H.n + 1) H.t H.n o).get j = _
    rw [Tr.get_set o _ _ _ _ (by omega)]
    by_cases e : j = H.n
    · rw [if_pos e, if_pos e]
    · rw [if_neg e, if_neg e, Heap.get_of_lt (by omega)]
  · rw [Heap.get_of_ge (H := H.push o) (by simp; omega), Heap.get_of_ge (by omega), if_neg (by omega)]
theorem Heap.lt_of_get {H : Heap} {i : Nat} {o : AObj} (h : H.get i = o) (ho : o ≠ .dead) : i < H.n := by
  rcases Nat.lt_or_ge i H.n with h1 | h1
  · exact h1
  · rw [Heap.get_of_ge h1] at h; exact absurd h.symm ho
/-- A new object, at the next place, or at one that was kept for it. -/
def Heap.pushAt (H : Heap) (r : Nat) (o : AObj) : Heap := match Nat.beq r H.n with | true => H.push o | false => H.set r o
@[simp] theorem Heap.pushAt_n (H : Heap) (o : AObj) : H.pushAt H.n o = H.push o := by unfold Heap.pushAt; rw [Nat.beq_refl]
theorem Heap.pushAt_eq {H : Heap} {r : Nat} (h : r = H.n) (o : AObj) : H.pushAt r o = H.push o := by subst h; exact Heap.pushAt_n H o
@[simp] theorem Heap.pushAt_set_n (H : Heap) (i : Nat) (o' o : AObj) : (H.set i o').pushAt H.n o = (H.set i o').push o := Heap.pushAt_n (H.set i o') o
theorem Heap.pushAt_lt {H : Heap} {r : Nat} (h : r < H.n) (o : AObj) : H.pushAt r o = H.set r o := by
  unfold Heap.pushAt
  have : Nat.beq r H.n = false := by
    cases hb : Nat.beq r H.n with
    | false => rfl
    | true => have := Nat.eq_of_beq_eq_true hb; omega
  rw [this]
theorem Heap.get_pushAt {H : Heap} {r : Nat} (h : r ≤ H.n) (o : AObj) (j : Nat) : (H.pushAt r o).get j = if j = r then o else H.get j := by
  rcases Nat.lt_or_ge r H.n with h1 | h1
  · rw [Heap.pushAt_lt h1]; exact Heap.get_set H r o h1 j
  · obtain rfl : r = H.n := by omega
    rw [Heap.pushAt_n]; exact Heap.get_push H o j
theorem Heap.le_pushAt (H : Heap) (r : Nat) (o : AObj) : H.n ≤ (H.pushAt r o).n := by
  unfold Heap.pushAt; split <;> simp
theorem Heap.n_pushAt {H : Heap} {r j : Nat} (o : AObj) (h : (H.pushAt r o).n ≤ j) : r ≤ H.n → j ≠ r ∧ H.n ≤ j := by
  intro hr
  rcases Nat.lt_or_ge r H.n with h1 | h1
  · rw [Heap.pushAt_lt h1] at h; simp at h; omega
  · obtain rfl : r = H.n := by omega
    rw [Heap.pushAt_n] at h; simp at h; omega
end Go.Vm

namespace Go.Vm

/-! ### Operations that touch no memory -/
/-- What a step comes to that asks the program's tables alone. -/
def pureRun (P : Program) {α : Type} : Sem α → Option α
  | .pure a => some a
  | .program k => pureRun P (k P)
  | .mark _ k => pureRun P k
  | _ => none

theorem pureRun_run (P : Program) {α : Type} : ∀ (s : Sem α) (a : α), pureRun P s = some a → ∀ w, s.run P w = .ok a w := by
  intro s
  induction s with
  | pure a => intro b h w; simp only [pureRun, Option.some.injEq] at h; subst h; rfl
  | program k ih => intro b h w; exact ih P b h w
  | mark m k ih => intro b h w; exact ih b h w
  | _ => intro b h; simp [pureRun] at h

/-- The value, if no address is in it. -/
def ifGround : Option Value → Option Value
  | some v => match ground v with | true => some v | false => none
  | none => none

def isNil : Value → Bool
  | .pointer none | .slice none _ _ | .map none | .nilFunc | .nilIface => true
  | _ => false

/-- Whether two values of which one is nil are equal. -/
def sizeT (P : Program) (t : TypeId) : Option Nat := (P.info? t).map (·.size)
def eqNil (P : Program) (t : TypeId) : Value → Value → Option Bool
  | .pointer none, .pointer b => match P.underlying t with | some (.pointer _) => some b.isNone | _ => none
  | .pointer (some _), .pointer none => match P.underlying t with | some (.pointer _) => some false | _ => none
  | .pointer (some ⟨a, o, none⟩), .pointer (some ⟨a2, o2, none⟩) => match P.underlying t, Nat.beq a a2 with
    | some (.pointer e), true => match sizeT P e with | some (_ + 1) => some (Nat.beq o o2) | _ => none
    | _, _ => none
  | .slice none _ _, .slice b _ _ => match P.underlying t with | some (.slice _) => some b.isNone | _ => none
  | .slice (some _) _ _, .slice none _ _ => match P.underlying t with | some (.slice _) => some false | _ => none
  | .map none, .map b => match P.underlying t with | some (.map _ _) => some b.isNone | _ => none
  | .map (some _), .map none => match P.underlying t with | some (.map _ _) => some false | _ => none
  | .nilFunc, .nilFunc => match P.underlying t with | some (.func _ _ _) => some true | _ => none
  | .nilFunc, .func _ _ _ => match P.underlying t with | some (.func _ _ _) => some false | _ => none
  | .func _ _ _, .nilFunc => match P.underlying t with | some (.func _ _ _) => some false | _ => none
  | .nilIface, .iface _ _ => match P.underlying t with | some (.interface _) => some false | _ => none
  | .iface _ _, .nilIface => match P.underlying t with | some (.interface _) => some false | _ => none
  | _, _ => none

def exBin (P : Program) (op : BinOp) (t : TypeId) (x y : Operand) (a b : Value) : Option Value :=
  match ground a && ground b with
  | true => ifGround (pureRun P (do eqGuard op t x y a b; binOp op t a b))
  | false => match op with
    | .eql => (eqNil P t a b).map .bool
    | .neq => (eqNil P t a b).map fun r => .bool (!r)
    | _ => none

def aggT (P : Program) (t : TypeId) : Option Bool :=
  match P.underlying t with
  | some (.struct _) | some (.array _ _) => some true
  | some _ => some false
  | none => none
def bytesT (P : Program) (t : TypeId) : Option Nat := (P.info? t).map (·.bytes)
def elemT (P : Program) (t : TypeId) : Option TypeId := match P.underlying t with | some (.slice e) => some e | _ => none

def isTuple : Value → Bool
  | .tuple _ => true
  | _ => false
/-- The zero value, if no address is in it. -/
def zeroT (P : Program) (t : TypeId) : Option Value :=
  match ifGround ((P.info? t).bind (·.zero)) with
  | some z => match isTuple z with | true => none | false => some z
  | none => none
def isAggV : Value → Bool
  | .agg _ => true
  | _ => false

/-- A part of a value's cells. -/
def partA (P : Program) (t : TypeId) (cs : List Value) (off : Nat) : Option Value :=
  match aggT P t, sizeT P t with
  | some true, some n => if off + n ≤ cs.length then some (.agg ⟨(cs.drop off).take n⟩) else none
  | some false, _ => cs[off]?
  | _, _ => none

def writeAt (cs : List Value) (off : Nat) (vs : List Value) : List Value := cs.take off ++ (vs ++ cs.drop (off + vs.length))

def fillL (place : Nat → Option (Nat × Nat)) (cells : List Value) : List (Nat × Value) → Option (List Value)
  | [] => some cells
  | (i, v) :: rest =>
    match place i with
    | none => none
    | some (off, size) =>
      match Nat.beq v.cells.toList.length size && Nat.ble (off + size) cells.length && !isTuple v with
      | true => fillL place (writeAt cells off v.cells.toList) rest
      | false => none

/-- The places of a struct's fields. -/
def placesOf (P : Program) : List Field → Option (List (Nat × Nat))
  | [] => some []
  | f :: fs => match sizeT P f.type, placesOf P fs with
    | some n, some l => some ((f.offset, n) :: l)
    | _, _ => none

def exBuild (P : Program) (t : TypeId) (parts : List (Nat × Value)) : Option Value :=
  match zeroT P t with
  | none => none
  | some z => match P.underlying t with
    | some (.struct fields) => match placesOf P fields.toList with
      | some pl => (fillL (fun i => pl[i]?) z.cells.toList parts).map fun cs => .agg ⟨cs⟩
      | none => none
    | some (.array _ e) => match sizeT P e with
      | some n => (fillL (fun i => some (i * n, n)) z.cells.toList parts).map fun cs => .agg ⟨cs⟩
      | none => none
    | _ => none

def repCells (n : Nat) (zs : List Value) : List Value := (List.replicate n zs).flatten

/-! ### Memory -/
def exLoad (P : Program) (t : TypeId) (a : Value) (H : Heap) : Option Value :=
  match a with
  | .pointer (some ⟨id, off, none⟩) => match H.get id with
    | .row _ _ _ cs => partA P t cs off
    | .unit _ => partA P t [] off
    | _ => none
  | _ => none

def exStore (P : Program) (t : TypeId) (a v : Value) (H : Heap) : Option Heap :=
  match a with
  | .pointer (some ⟨id, off, none⟩) => match H.get id with
    | .row true tl es cs => match sizeT P t with
      | some n => match Nat.beq v.cells.toList.length n && Nat.ble (off + n) cs.length && !isTuple v with
        | true => some (H.set id (.row true tl es (writeAt cs off v.cells.toList)))
        | false => none
      | none => none
    | _ => none
  | _ => none

def newPtr (H : Heap) (es : Nat) (cs : List Value) : Value × Heap := (.pointer (some ⟨H.n, 0, none⟩), H.push (.row true 0 es cs))
/-- A new variable: of a type without cells a place alone. -/
def varObj (P : Program) (t : TypeId) (cs : List Value) : AObj := match sizeT P t with
  | some 0 => .unit t
  | _ => .row true 0 1 cs
def newVarA (P : Program) (t : TypeId) (r : Nat) (H : Heap) (cs : List Value) : Value × Heap := (.pointer (some ⟨r, 0, none⟩), H.pushAt r (varObj P t cs))

def exAllocAt (P : Program) (t : TypeId) (r : Nat) (H : Heap) : Option (Value × Heap) :=
  (zeroT P t).map fun z => newVarA P t r H z.cells.toList
def exAlloc (P : Program) (t : TypeId) (H : Heap) : Option (Value × Heap) := exAllocAt P t H.n H

def exBoxAt (P : Program) (t : TypeId) (v : Value) (r : Nat) (H : Heap) : Option (Value × Heap) :=
  match isTuple v with
  | true => none
  | false => some (newVarA P t r H v.cells.toList)
def exBox (P : Program) (t : TypeId) (v : Value) (H : Heap) : Option (Value × Heap) := exBoxAt P t v H.n H

def exBuildSliceAt (P : Program) (t : TypeId) (len : Nat) (parts : List (Nat × Value)) (r : Nat) (H : Heap) : Option (Value × Heap) :=
  match elemT P t with
  | none => none
  | some e => match sizeT P e, zeroT P e with
    | some n, some z => match Nat.ble (len * n) 16777216 && Nat.beq z.cells.toList.length n && !Nat.beq n 0 with
      | true => (fillL (fun i => some (i * n, n)) (repCells len z.cells.toList) parts).map fun cs => (.slice (some ⟨r, 0, none⟩) len len, H.pushAt r (.row true 0 n cs))
      | false => none
    | _, _ => none
def exBuildSlice (P : Program) (t : TypeId) (len : Nat) (parts : List (Nat × Value)) (H : Heap) : Option (Value × Heap) := exBuildSliceAt P t len parts H.n H

def exMakeSlice (P : Program) (t : TypeId) (l c : Value) (H : Heap) : Option (Value × Heap) :=
  match l, c, elemT P t with
  | .int _ l, .int _ c, some e => match sizeT P e, zeroT P e, bytesT P e with
    | some n, some z, some b =>
      if 0 ≤ l ∧ l ≤ c ∧ c ≤ 9223372036854775807 ∧ b * c ≤ 281474976710656 ∧ z.cells.toList.length = n ∧ n ≠ 0 then
        some (.slice (some ⟨H.n, 0, none⟩) l.toNat c.toNat, H.push (.row true 0 n (repCells c.toNat z.cells.toList)))
      else none
    | _, _, _ => none
  | _, _, _ => none

/-- The place of a part without cells, within a variable without cells. -/
def unitField (P : Program) (o : AObj) (id off : Nat) (fl : Field) : Option Value := match o with
  | .unit e => match sizeT P e, Nat.beq (off + fl.offset + fl.byteOffset) 0 with
    | some 0, true => some (.pointer (some ⟨id, 0, none⟩))
    | _, _ => none
  | _ => none
def exField (P : Program) (s : TypeId) (a : Value) (f : Nat) (H : Heap) : Option Value :=
  match a, P.underlying s with
  | .pointer (some ⟨id, off, none⟩), some (.struct fields) => match fields[f]? with
    | some fl => match sizeT P fl.type with
      | some n => match Nat.beq n 0 with
        | true => unitField P (H.get id) id off fl
        | false => some (.pointer (some ⟨id, off + fl.offset, none⟩))
      | none => none
    | none => none
  | _, _ => none

def exIndex (P : Program) (t : TypeId) (x i : Value) : Option Value :=
  match i with
  | .int _ i => match P.underlying t, x with
    | some (.slice e), .slice (some ⟨id, off, none⟩) len _ => match sizeT P e with
      | some n => if 0 ≤ i ∧ i < len then some (.pointer (some ⟨id, off + i.toNat * n, none⟩)) else none
      | none => none
    | some (.array len e), .pointer (some ⟨id, off, none⟩) => match sizeT P e with
      | some n => if 0 ≤ i ∧ i < len then some (.pointer (some ⟨id, off + i.toNat * n, none⟩)) else none
      | none => none
    | _, _ => none
  | _ => none

/-- A bound of a slice, if it is given. -/
def boundOf (d : Nat) : Option Value → Option Int
  | none => some d
  | some (.int _ i) => some i
  | some _ => none

/-- A slice of a slice, or of an array's row. tl 0: its capacity is known. -/
def cutA (id off len cap n : Nat) (lo hi mx : Option Value) (H : Heap) : Option (Value × Heap) :=
  match boundOf 0 lo, boundOf len hi, H.get id with
  | some l, some h, .row own tl es cs => match mx with
    | some m => match m, tl, hi with
      | .int _ m, 0, some _ => if 0 ≤ l ∧ l ≤ h ∧ h ≤ m ∧ m ≤ cap then
          some (.slice (some ⟨id, if m = l then off else off + l.toNat * n, none⟩) (h.toNat - l.toNat) (m.toNat - l.toNat), H) else none
      | _, _, _ => none
    | none =>
      if 0 ≤ l ∧ l ≤ h ∧ h ≤ cap then
        match tl with
        | 0 => some (.slice (some ⟨id, if (cap : Int) = l then off else off + l.toNat * n, none⟩) (h.toNat - l.toNat) (cap - l.toNat), H)
        | _ =>
          if (cap : Int) = l ∧ l ≠ 0 then
            -- nothing is left of it but its spare room
            match own, tl with
            | true, 1 => if es = n ∧ off + cap * n = cs.length then
                some (.slice (some ⟨H.n, 0, none⟩) 0 0, (H.set id (.row true 2 es cs)).push (.row true 1 n [])) else none
            | _, _ => none
          else some (.slice (some ⟨id, off + l.toNat * n, none⟩) (h.toNat - l.toNat) (cap - l.toNat), H)
      else none
  | _, _, _ => none

def exSlice (P : Program) (t : TypeId) (x : Value) (lo hi mx : Option Value) (H : Heap) : Option (Value × Heap) :=
  match P.underlying t, x with
  | some .string, .string s => match boundOf 0 lo, boundOf s.size hi, mx with
    | some l, some h, none => if 0 ≤ l ∧ l ≤ h ∧ h ≤ s.size then some (.string (s.extract l.toNat h.toNat), H) else none
    | _, _, _ => none
  | some (.slice e), .slice (some ⟨id, off, none⟩) len cap => match sizeT P e with
    | some n => cutA id off len cap n lo hi mx H
    | none => none
  | some (.slice e), .slice none 0 0 => match sizeT P e, boundOf 0 lo, boundOf 0 hi, mx with
    | some _, some 0, some 0, none => some (.slice none 0 0, H)
    | _, _, _, _ => none
  | some (.array len e), .pointer (some ⟨id, off, none⟩) => match sizeT P e, H.get id with
    | some n, .row _ 0 _ _ => cutA id off len len n lo hi mx H
    | _, _ => none
  | _, _ => none

/-- The first n elements' cells. -/
def cellsOf (H : Heap) (size n : Nat) : Value → Option (List Value)
  | .slice (some ⟨id, off, none⟩) _ _ => match H.get id with
    | .row _ _ _ cs => if off + n * size ≤ cs.length then some ((cs.drop off).take (n * size)) else none
    | _ => none
  | .slice none _ _ => if n = 0 then some [] else none
  | .string s => if size = 1 ∧ n ≤ s.size then some ((s.data.toList.take n).map fun b => .int .u8 b.toNat) else none
  | _ => none

def lenA : Value → Option Nat
  | .slice _ n _ => some n
  | .string s => some s.size
  | _ => none

/-- So many zero elements, appended to a nil slice. -/
def exAppendMake (P : Program) (e : TypeId) (base : Option Addr) (len cap : Nat) (x : Value) (H : Heap) : Option (Value × Heap) :=
  match base, x with
  | none, .int .i64 k => match sizeT P e, bytesT P e, zeroT P e with
    | some n, some b, some z =>
      if len = 0 ∧ cap = 0 ∧ 0 ≤ k ∧ k ≤ 1000000 ∧ b ≤ 1000 ∧ z.cells.toList.length = n ∧ n ≠ 0 then
        if k = 0 then some (.slice none 0 0, H) else some (.slice (some ⟨H.n, 0, none⟩) k.toNat k.toNat, H.push (.row true 1 n (repCells k.toNat z.cells.toList)))
      else none
    | _, _, _ => none
  | _, _ => none

/-- A slice's elements, appended. -/
def exAppendRow (P : Program) (e : TypeId) (base : Option Addr) (len cap : Nat) (x : Value) (r : Nat) (pu : Heap → AObj → Heap) (H : Heap) : Option (Value × Heap) :=
  match sizeT P e, bytesT P e, lenA x, zeroT P e with
  | some n, some b, some m, some z => match cellsOf H n m x with
    | none => none
    | some new =>
      if n ≠ 0 ∧ z.cells.toList.length = n ∧ (len + m + 200) * b ≤ 140737488355328 ∧ len + m ≤ 140737488355328 ∧ len ≤ cap then
        match base with
        | none => if m = 0 then some (.slice none len cap, H) else if cap = 0 ∧ len = 0 then some (.slice (some ⟨r, 0, none⟩) m m, pu H (.row true 1 n new)) else none
        | some ⟨id, off, none⟩ =>
          if m = 0 then some (.slice (some ⟨id, off, none⟩) len cap, H) else
          match H.get id with
          | .row own tl es cs =>
            if len + m ≤ cap then
              if own = true ∧ off + (len + m) * n ≤ cs.length then some (.slice (some ⟨id, off, none⟩) (len + m) cap, H.set id (.row true tl es (writeAt cs (off + len * n) new))) else none
            else if off + len * n ≤ cs.length then
              match tl with
              | 0 => some (.slice (some ⟨r, 0, none⟩) (len + m) (len + m), pu H (.row true 1 n ((cs.drop off).take (len * n) ++ new)))
              | 1 => if own = true ∧ es = n ∧ off + cap * n ≤ cs.length then
                  some (.slice (some ⟨r, 0, none⟩) (len + m) (len + m), pu (H.set id .dead) (.row true 1 n ((cs.drop off).take (len * n) ++ new))) else none
              | _ => none
            else none
          | _ => none
        | _ => none
      else none
  | _, _, _, _ => none
def exAppend (P : Program) (ts : List TypeId) (s x : Value) (H : Heap) : Option (Value × Heap) :=
  match ts, s with
  | t :: t1 :: _, .slice base len cap => match elemT P t, P.underlying t1 with
    | some e, some (.int _) => exAppendMake P e base len cap x H
    | some e, some _ => exAppendRow P e base len cap x H.n Heap.push H
    | _, _ => none
  | _, _ => none
def exAppendAt (P : Program) (ts : List TypeId) (s x : Value) (r : Nat) (H : Heap) : Option (Value × Heap) :=
  match ts, s with
  | t :: t1 :: _, .slice base len cap => match elemT P t, P.underlying t1 with
    | some _, some (.int _) => none
    | some e, some _ => exAppendRow P e base len cap x r (fun H o => H.pushAt r o) H
    | _, _ => none
  | _, _ => none

def exCopy (P : Program) (ts : List TypeId) (d x : Value) (H : Heap) : Option (Value × Heap) :=
  match ts, d with
  | t :: _, .slice base len _ => match elemT P t, lenA x with
    | some e, some m => match sizeT P e with
      | some n => match cellsOf H n (min m len) x with
        | some new => match base with
          | none => if len = 0 then some (.int .i64 0, H) else none
          | some ⟨id, off, none⟩ => match H.get id with
            | .row true tl es cs => if off + min m len * n ≤ cs.length then some (.int .i64 (min m len : Nat), H.set id (.row true tl es (writeAt cs off new))) else none
            | _ => none
          | _ => none
        | none => none
      | none => none
    | _, _ => none
  | _, _ => none

def exClear (P : Program) (ts : List TypeId) (x : Value) (H : Heap) : Option Heap :=
  match ts with
  | t :: _ => match elemT P t with
    | none => none
    | some e => match x with
      | .slice none _ _ => some H
      | .slice (some ⟨id, off, none⟩) len _ =>
        if len = 0 then some H else
        match sizeT P e, zeroT P e with
        | some n, some z => match H.get id with
          | .row true tl es cs => if off + len * n ≤ cs.length ∧ z.cells.toList.length = n ∧ n ≠ 0 then some (H.set id (.row true tl es (writeAt cs off (repCells len z.cells.toList)))) else none
          | _ => none
        | _, _ => none
      | _ => none
  | [] => none

/-! ### Maps whose keys are whole numbers, strings or bools -/
def keyKind (P : Program) (t : TypeId) (k : Value) : Bool :=
  match P.underlying t, k with
  | some (.int j), .int j' _ => j == j'
  | some .string, .string _ => true
  | some .bool, .bool _ => true
  | _, _ => false

def keyIs : Value → Value → Option Bool
  | .int j a, .int j' b => if j = j' then some (a == b) else none
  | .string a, .string b => some (a == b)
  | .bool a, .bool b => some (a == b)
  | _, _ => none

def mapFind (k : Value) : List (Value × Value) → Option (Option Value)
  | [] => some none
  | (q, v) :: es => match keyIs k q with
    | some true => some (some v)
    | some false => mapFind k es
    | none => none

def mapPut (k v : Value) : List (Value × Value) → Option (List (Value × Value))
  | [] => some [(k, v)]
  | (q, u) :: es => match keyIs k q with
    | some true => some ((k, v) :: es)
    | some false => (mapPut k v es).map fun r => (q, u) :: r
    | none => none

def exLookup (P : Program) (t : TypeId) (m k : Value) (ok : Bool) (H : Heap) : Option Value :=
  match P.underlying t with
  | some (.map kt et) =>
    match keyKind P kt k with
    | false => none
    | true =>
      let r : Option (Option Value) := match m with
        | .map none => some none
        | .map (some id) => match H.get id with
          | .map es => mapFind k es
          | _ => none
        | _ => none
      match r with
      | some (some v) => some (if ok then .tuple #[v, .bool true] else v)
      | some none => (zeroT P et).map fun z => if ok then .tuple #[z, .bool false] else z
      | none => none
  | _ => none

def exMapPut (P : Program) (t : TypeId) (m k v : Value) (H : Heap) : Option Heap :=
  match P.underlying t, m with
  | some (.map kt _), .map (some id) =>
    match keyKind P kt k with
    | true => match H.get id with
      | .map es => (mapPut k v es).map fun r => H.set id (.map r)
      | _ => none
    | false => none
  | _, _ => none

def exLen (P : Program) (ts : List TypeId) (x : Value) (H : Heap) : Option Value :=
  match ts with
  | t :: _ => match P.underlying t, x with
    | some .string, .string s => some (.int .i64 s.size)
    | some (.array n _), _ => some (.int .i64 n)
    | some (.slice _), .slice _ n _ => some (.int .i64 n)
    | some (.map _ _), .map none => some (.int .i64 0)
    | some (.map _ _), .map (some id) => match H.get id with
      | .map es => some (.int .i64 es.length)
      | _ => none
    | _, _ => none
  | _ => none

def exCap (P : Program) (ts : List TypeId) (x : Value) (H : Heap) : Option Value :=
  match ts with
  | t :: _ => match P.underlying t, x with
    | some (.slice _), .slice none _ c => some (.int .i64 c)
    | some (.slice _), .slice (some ⟨id, _, none⟩) _ c => match H.get id with
      | .row _ 0 _ _ => some (.int .i64 c)
      | _ => none
    | _, _ => none
  | _ => none

/-- A string's bytes as a new row, and back. -/
def bytesOf (s : ByteArray) : List Value := s.data.toList.map fun b => .int .u8 b.toNat
def byteList : List Value → Option (List UInt8)
  | [] => some []
  | .int .u8 n :: cs => (byteList cs).map fun l => UInt8.ofNat n.toNat :: l
  | _ :: _ => none

def exConvert (P : Program) (src dst : TypeId) (x : Value) (H : Heap) : Option (Value × Heap) :=
  match P.underlying src, P.underlying dst, x with
  | some .string, some (.slice e), .string s => match P.underlying e with
    | some (.int .u8) => some (.slice (some ⟨H.n, 0, none⟩) s.size s.size, H.push (.row true 1 1 (bytesOf s)))
    | _ => none
  | some (.slice e), some .string, .slice a len c => match P.underlying e with
    | some (.int .u8) => match cellsOf H 1 len (.slice a len c) with
      | some cs => (byteList cs).map fun l => (.string ⟨⟨l⟩⟩, H)
      | none => none
    | _ => none
  | some .string, some (.slice _), _ => none
  | some (.slice e), some (.slice _), .slice (some ⟨id, off, none⟩) l c => match Nat.beq src dst, P.underlying e, H.get id with
    | true, some (.int .u8), .row true _ _ _ => some (.slice (some ⟨id, off, none⟩) l c, H)
    | _, _, _ => none
  | some (.slice _), _, _ => none
  | _, _, _ => match ground x with
    | true => (ifGround (pureRun P (convert src dst x))).map fun v => (v, H)
    | false => none

end Go.Vm

namespace Go.Vm

/-! ### Control -/
/-- What an operation, or a call, comes to: a value, or a panic with one. -/
inductive Out where
  | val (v : Value)
  | pan (v : Value)
  deriving Inhabited

abbrev CallA := FuncId → List Value → Heap → Option (Out × Heap)

def evA (tmps : List Value) : Operand → Option Value
  | .tmp t => some (tmps.getD t undef)
  | .const v => match ground v with | true => some v | false => none
  | .global _ => none
  | .func f => some (.func (.func f) #[] #[])

def evL (tmps : List Value) : List Operand → Option (List Value)
  | [] => some []
  | x :: xs => match evA tmps x, evL tmps xs with
    | some v, some vs => some (v :: vs)
    | _, _ => none

def evO (tmps : List Value) : Option Operand → Option (Option Value)
  | none => some none
  | some x => (evA tmps x).map some

def evP (tmps : List Value) : List (Nat × Operand) → Option (List (Nat × Value))
  | [] => some []
  | (i, x) :: xs => match evA tmps x, evP tmps xs with
    | some v, some vs => some ((i, v) :: vs)
    | _, _ => none

def val2 (r : Option (Value × Heap)) : Option (Out × Heap) := r.map fun p => (.val p.1, p.2)
def val1 (r : Option Value) (H : Heap) : Option (Out × Heap) := r.map fun v => (.val v, H)
def skip1 (r : Option Heap) : Option (Out × Heap) := r.map fun H => (.val undef, H)

def exBuiltin (P : Program) (b : Builtin) (ts : List TypeId) (args : List Value) (H : Heap) : Option (Out × Heap) :=
  match b, args with
  | .append, [s, x] => val2 (exAppend P ts s x H)
  | .copy, [d, x] => val2 (exCopy P ts d x H)
  | .clear, [x] => (exClear P ts x H).map fun H' => (.val (.tuple #[]), H')
  | .len, [x] => val1 (exLen P ts x H) H
  | .cap, [x] => val1 (exCap P ts x H) H
  | .min, xs => match groundL xs with | true => val1 (ifGround (pureRun P (Builtin.min_ ts.toArray 0 xs.toArray))) H | false => none
  | .max, xs => match groundL xs with | true => val1 (ifGround (pureRun P (Builtin.max_ ts.toArray 0 xs.toArray))) H | false => none
  | _, _ => none

/-- The function that a method's name stands for: its receiver is the value itself. -/
def exMethod (P : Program) (t : TypeId) (name : String) : Option FuncId :=
  match P.info? t with
  | some i => match i.methods.find? (·.name == name) with
    | some m => match m.path.toList, m.func, P.underlying t with
      | [], some (f, true), some (.pointer _) => some f
      | [], some (f, false), some (.pointer _) => none
      | [], some (f, false), some _ => some f
      | _, _, _ => none
    | none => none
  | none => none

def exCallOp (P : Program) (call : CallA) (c : Call) (tmps : List Value) (H : Heap) : Option (Out × Heap) :=
  match evL tmps c.args.toList with
  | none => none
  | some args => match c.callee with
    | .builtin b => exBuiltin P b c.argTypes.toList args H
    | .value f => match evA tmps f with
      | some (.func (.func g) first captured) => call g (first.toList ++ args ++ captured.toList) H
      | _ => none
    | .invoke r m => match evA tmps r with
      | some (.iface t v) => match exMethod P t m with
        | some f => call f (v :: args) H
        | none => none
      | _ => none

def exOp (P : Program) (call : CallA) (o : Op) (tmps : List Value) (H : Heap) : Option (Out × Heap) :=
  match o with
  | .move x | .assign x => val1 (evA tmps x) H
  | .pick c a b => match evA tmps c with
    | some (.bool t) => val1 (match t with | true => evA tmps a | false => evA tmps b) H
    | _ => none
  | .alloc t => val2 (exAlloc P t H)
  | .box ty x => match evA tmps x with | some v => val2 (exBox P ty v H) | none => none
  | .build t ps => match evP tmps ps.toList with | some l => val1 (exBuild P t l) H | none => none
  | .buildSlice t n ps => match evP tmps ps.toList with | some l => val2 (exBuildSlice P t n l H) | none => none
  | .load t a => match evA tmps a with | some v => val1 (exLoad P t v H) H | none => none
  | .store t a x => match evA tmps a, evA tmps x with | some v, some u => skip1 (exStore P t v u H) | _, _ => none
  | .nilCheck x => match evA tmps x with
    | some (.pointer (some a)) => some (.val (.pointer (some a)), H)
    | some (.func (.func f) a c) => some (.val (.func (.func f) a c), H)
    | _ => none
  | .binOp op t x y _ => match evA tmps x, evA tmps y with | some a, some b => val1 (exBin P op t x y a b) H | _, _ => none
  | .unOp op _ x => match evA tmps x with
    | some a => match ground a with | true => val1 (ifGround (pureRun P (Op.unary op a))) H | false => none
    | none => none
  | .convert s d x => match evA tmps x with | some a => val2 (exConvert P s d a H) | none => none
  | .makeInterface t x => match evA tmps x with
    | some v => match P.underlying t with
      | some (.interface _) | none => none
      | some _ => some (.val (.iface t v), H)
    | none => none
  | .makeFunc (.func f) first captured => match evL tmps first.toList, evL tmps captured.toList with
    | some a, some c => some (.val (.func (.func f) ⟨a⟩ ⟨c⟩), H)
    | _, _ => none
  | .makeMap _ none => some (.val (.map (some H.n)), H.push (.map []))
  | .makeSlice t l c => match evA tmps l, evA tmps c with | some a, some b => val2 (exMakeSlice P t a b H) | _, _ => none
  | .slice t x lo hi mx => match evA tmps x, evO tmps lo, evO tmps hi, evO tmps mx with
    | some v, some l, some h, some m => val2 (exSlice P t v l h m H)
    | _, _, _, _ => none
  | .fieldAddr s x f => match evA tmps x with | some v => val1 (exField P s v f H) H | none => none
  | .field t x f => match evA tmps x, P.underlying t with
    | some (.agg cs), some (.struct fields) => match fields[f]? with
      | some fl => val1 (partA P fl.type cs.toList fl.offset) H
      | none => none
    | _, _ => none
  | .indexAddr t x i => match evA tmps x, evA tmps i with | some v, some k => val1 (exIndex P t v k) H | _, _ => none
  | .index t x i => match evA tmps x, evA tmps i with
    | some (.agg cs), some (.int _ i) => match P.underlying t with
      | some (.array len e) => match sizeT P e with
        | some n => if 0 ≤ i ∧ i < len then val1 (partA P e cs.toList (i.toNat * n)) H else none
        | none => none
      | _ => none
    | some (.string s), some (.int k i) => val1 (ifGround (pureRun P (Instr.index t (.string s) (.int k i)))) H
    | _, _ => none
  | .lookup t x i ok => match evA tmps x, evA tmps i with | some v, some k => val1 (exLookup P t v k ok H) H | _, _ => none
  | .mapUpdate t m k x | .insert t m k x => match evA tmps m, evA tmps k, evA tmps x with | some v, some q, some u => skip1 (exMapPut P t v q u H) | _, _, _ => none
  | .extract t i => match evA tmps t with
    | some (.tuple vs) => val1 vs.toList[i]? H
    | _ => none
  | .call c => exCallOp P call c tmps H
  | .panic x => match evA tmps x with
    | some (.iface t v) => some (.pan (.iface t v), H)
    | _ => none
  | _ => none

def putA (tmps : List Value) (dst : Option Tmp) (v : Value) : List Value :=
  match dst with
  | some d => tmps.set d v
  | none => tmps

/-- Is the operation wanted, by its guard? -/
def wantA (ops : List Oper) (o : Oper) (tmps : List Value) : Bool :=
  match o.guard with
  | none => true
  | some (j, w) => match (ops[j]?).bind (·.dst) with
    | some d => match tmps[d]? with
      | some (.bool b) => b == w
      | _ => false
    | none => false

inductive ExA where
  | normal
  | exit (id : Nat)
  | goto (l : Nat)
  | ret
  | pan (v : Value)
  deriving Inhabited

end Go.Vm

namespace Go.Vm
/-! ### Runs -/
/-- A frame: its slots, and what it has deferred, the last one first. -/
structure St where
  t : List Value
  ds : List (FuncId × List Value)
  deriving Inhabited

abbrev ResA := Option (ExA × St × Heap)

/-- A deferred call's function and arguments. -/
def exDefer (c : Call) (t : List Value) : Option (FuncId × List Value) :=
  match c.callee, evL t c.args.toList with
  | .value f, some args => match evA t f with
    | some (.func (.func g) first captured) => some (g, first.toList ++ args ++ captured.toList)
    | _ => none
  | _, _ => none

def deferOf : Op → Option Call
  | .defer c => some c
  | _ => none
def exList (P : Program) (call : CallA) (ops : List Oper) : List Oper → St → Heap → ResA
  | [], s, H => some (.normal, s, H)
  | o :: rest, s, H =>
    match wantA ops o s.t with
    | false => exList P call ops rest ⟨putA s.t o.dst undef, s.ds⟩ H
    | true => match deferOf o.op with
      | some c => match exDefer c s.t with
        | some d => exList P call ops rest ⟨putA s.t o.dst undef, d :: s.ds⟩ H
        | none => none
      | none => match exOp P call o.op s.t H with
        | none => none
        | some (.pan v, H') => some (.pan v, s, H')
        | some (.val v, H') => exList P call ops rest ⟨putA s.t o.dst v, s.ds⟩ H'

/-- What a frame hands back. -/
def exResults (P : Program) : List ResultVar → List Value → Heap → Option (List Value)
  | [], _, _ => some []
  | .tmp t :: rs, ts, H => (exResults P rs ts H).map fun l => ts.getD t undef :: l
  | .cell a ty :: rs, ts, H => match exLoad P ty (ts.getD a undef) H, exResults P rs ts H with
    | some v, some l => some (v :: l)
    | _, _ => none

def tupleOf : List Value → Value
  | [v] => v
  | l => .tuple ⟨l⟩

structure Runs where
  call : CallA
  code : Code → St → Heap → ResA
  scope : Code → Code → St → Heap → ResA

/-- What runs the functions that are not walked into. -/
structure Hooks where
  has : FuncId → Bool
  run : CallA

def slotsAt (fn : Func) (args : List Value) : List Value := args ++ List.replicate (fn.ntmps - args.length) undef

/-- Is it 'if recover() != nil {..}', and no more? -/
def isNoPanic (P : Program) (ty : TypeId) (x y : Operand) : Bool := match pureRun P (do eqGuard .neq ty x y .nilIface .nilIface; binOp .neq ty .nilIface .nilIface) with
  | some (.bool false) => true
  | _ => false
def isRec (P : Program) (fn : Func) (c : Code) : Bool := match c with
  | .seq (.region _ ops false) (.cond (.tmp k) _ .skip) => match ops with
    | ⟨[⟨some d, .call ⟨.builtin .recover, ⟨[]⟩, _⟩, _, _, _, none⟩, ⟨some k', .binOp .neq ty (.tmp d') (.const .nilIface) _, _, _, _, none⟩]⟩ =>
      Nat.beq d d' && (Nat.beq k k' && (Nat.blt d fn.ntmps && (Nat.blt k fn.ntmps && (fn.results.toList.isEmpty && (!(fn.name == "runtime.NumGoroutine") && isNoPanic P ty (.tmp d') (.const .nilIface))))))
    | _ => false
  | _ => false
def recFn (P : Program) (f : FuncId) : Bool := match P.funcs[f]? with
  | some fn => match fn.body with
    | some c => isRec P fn c
    | none => false
  | none => false
def recs (P : Program) (ds : List (FuncId × List Value)) : Bool := ds.any fun d => recFn P d.1

/-- A deferred call. It defers nothing itself; it asks for a panic, where there is none, in one form alone. -/
def exLate (P : Program) (E : Hooks) (r : Runs) (f : FuncId) (args : List Value) (H : Heap) : Option Heap :=
  match E.has f with
  | true => none
  | false => match P.funcs[f]? with
    | some fn => match fn.body with
      | some c => match isRec P fn c with
       | true => some H
       | false => match fn.name == "runtime.NumGoroutine" with
        | true => none
        | false => match r.code c ⟨slotsAt fn args, []⟩ H with
          | some (.normal, ⟨t, []⟩, H') | some (.ret, ⟨t, []⟩, H') => (exResults P fn.results.toList t H').map fun _ => H'
          | _ => none
      | none => none
    | none => none

/-- The deferred calls, behind a frame's end. -/
def exLeave (P : Program) (E : Hooks) (r : Runs) : List (FuncId × List Value) → Heap → Option Heap
  | [], H => some H
  | d :: ds, H => match exLate P E r d.1 d.2 H with
    | some H' => exLeave P E r ds H'
    | none => none

def exBody (P : Program) (E : Hooks) (r : Runs) (fn : Func) (c : Code) (args : List Value) (H : Heap) : Option (Out × Heap) :=
  match r.code c ⟨slotsAt fn args, []⟩ H with
  | some (e, s, H') => match exLeave P E r s.ds H' with
    | some H2 => match e with
      | .pan v => match recs P s.ds with | true => none | false => some (.pan v, H2)
      | .normal | .ret => (exResults P fn.results.toList s.t H2).map fun l => (.val (tupleOf l), H2)
      | _ => none
    | none => none
  | none => none

def exCall (P : Program) (E : Hooks) (r : Runs) (f : FuncId) (args : List Value) (H : Heap) : Option (Out × Heap) :=
  match E.has f with
  | true => E.run f args H
  | false => match P.funcs[f]? with
    | some fn => match fn.body with
      | some c => match fn.name == "runtime.NumGoroutine" with
        | true => none
        | false => exBody P E r fn c args H
      | none => none
    | none => none

def exCode (P : Program) (r : Runs) (dr : List Oper → St → Heap → ResA) (c : Code) (s : St) (H : Heap) : ResA :=
  match c with
  | .skip | .label _ => some (.normal, s, H)
  | .region _ ops draw => match draw with
    | false => exList P r.call ops.toList ops.toList s H
    | true => dr ops.toList s H
  | .seq a b => match r.code a s H with
    | some (.normal, s', H') => r.code b s' H'
    | x => x
  | .cond c x y => match evA s.t c with
    | some (.bool true) => r.code x s H
    | some (.bool false) => r.code y s H
    | _ => none
  | .block id c => match r.code c s H with
    | some (.exit id', s', H') => match Nat.beq id' id with
      | true => some (.normal, s', H')
      | false => some (.exit id', s', H')
    | x => x
  | .loop c => match r.code c s H with
    | some (.normal, s', H') => r.code (.loop c) s' H'
    | x => x
  | .exit id => some (.exit id, s, H)
  | .goto l => some (.goto l, s, H)
  | .ret => some (.ret, s, H)
  | .scope c => r.scope c c s H
  | _ => none

def exScope (r : Runs) (body cur : Code) (s : St) (H : Heap) : ResA :=
  match r.code cur s H with
  | some (.goto l, s', H') => match findLabel body l with
    | some rest => r.scope body rest s' H'
    | none => some (.goto l, s', H')
  | x => x

/-! ### A region whose order is drawn -/
def slotsOf (o : Oper) : List Nat := o.dst.toList ++ o.op.operands.toList.filterMap fun | .tmp t => some t | _ => none
def namesA (ops : List Oper) (o : Oper) : List Nat :=
  slotsOf o ++ (match o.guard with | some (j, _) => ((ops[j]?).bind (·.dst)).toList | none => [])

/-- May it turn an object, or make one? -/
def isW (P : Program) (o : Op) : Bool :=
  match o with
  | .move _ | .assign _ | .pick .. | .build .. | .load .. | .nilCheck _ | .binOp .. | .unOp .. | .makeInterface .. | .makeFunc .. | .fieldAddr .. | .field .. | .indexAddr .. | .index .. | .lookup .. | .extract .. => false
  | .convert s d _ => match P.underlying s, P.underlying d with
    | some (.slice _), _ => true
    | _, some (.slice _) => true
    | some _, some _ => false
    | _, _ => true
  | .call { callee := .builtin .len, .. } | .call { callee := .builtin .cap, .. } | .call { callee := .builtin .min, .. } | .call { callee := .builtin .max, .. } => false
  | _ => true

/-- One operation in a drawn region: its value, or undef if it is not wanted; and the heap behind it. -/
def exOne (P : Program) (call : CallA) (ops : List Oper) (o : Oper) (t : List Value) (H : Heap) : Option (Value × Heap) :=
  match wantA ops o t with
  | false => some (undef, H)
  | true => match exOp P call o.op t H with
    | some (.val v, H') => some (v, H')
    | _ => none

/-- The run in the order of the text: of each operation the slots ahead of it and its value; the heaps behind each operation that may write. -/
def exText (P : Program) (call : CallA) (ops : List Oper) : List Oper → List Value → Heap → Option (List (List Value × Value) × List Heap × List Value × Heap)
  | [], t, H => some ([], [], t, H)
  | o :: rest, t, H => match exOne P call ops o t H with
    | none => none
    | some (v, H') => match exText P call ops rest (putA t o.dst v) H' with
      | none => none
      | some (tr, hs, t', H2) => match isW P o.op with
        | true => some ((t, v) :: tr, H' :: hs, t', H2)
        | false => some ((t, v) :: tr, hs, t', H2)

/-- What is bound to come ahead: of each operation a set of numbers, as a number. -/
def maskOf (ms : List Nat) : List Edge → Nat
  | [] => 0
  | e :: es => match Region.binds .any e with
    | true => (2 ^ e.on ||| ms.getD e.on 0) ||| maskOf ms es
    | false => maskOf ms es
def preGo (ms : List Nat) : List Oper → List Nat
  | [] => ms
  | o :: os => preGo (ms ++ [maskOf ms o.after.toList]) os
def preOf (ops : List Oper) : List Nat := preGo [] ops

def confA (ops : List Oper) (x y : Oper) : Bool :=
  (match x.dst with | some d => (namesA ops y).contains d | none => false) ||
  (match y.dst with | some d => (namesA ops x).contains d | none => false)

/-- Are two operations of which one may hand the other something, or that may both write, in one order each time? -/
def orderAt (P : Program) (ops : List Oper) (ms : List Nat) (i : Nat) : Bool :=
  match ops[i]? with
  | none => true
  | some oi => oi.after.toList.all (fun e => Nat.blt e.on i || !Region.binds .any e) && (List.range i).all fun j =>
    match ops[j]? with
    | none => true
    | some oj => (ms.getD i 0).testBit j || !(confA ops oi oj || (isW P oi.op && isW P oj.op))

def orderOK (P : Program) (ops : List Oper) (ms : List Nat) : Bool := (List.range ops.length).all (orderAt P ops ms)

def cntW (P : Program) (p : Nat → Bool) : List Oper → Nat → Nat
  | [], _ => 0
  | o :: rest, i => (match isW P o.op && p i with | true => 1 | false => 0) + cntW P p rest (i + 1)
def loW (P : Program) (ops : List Oper) (ms : List Nat) (i : Nat) : Nat := cntW P (fun j => !(Nat.beq j i) && (ms.getD i 0).testBit j) ops 0
def hiW (P : Program) (ops : List Oper) (ms : List Nat) (i : Nat) : Nat := cntW P (fun j => !(Nat.beq j i) && !(ms.getD j 0).testBit i) ops 0

/-- Of each operation that does not write: the first of the heaps that it may meet, and how many more, if there is more than one. -/
def planFrom (P : Program) (ops : List Oper) (ms : List Nat) : List Oper → Nat → List (Option (Nat × Nat))
  | [], _ => []
  | o :: os, i => (match isW P o.op with
    | true => none
    | false => match Nat.beq (loW P ops ms i) (hiW P ops ms i) with
      | true => none
      | false => some (loW P ops ms i, hiW P ops ms i - loW P ops ms i)) :: planFrom P ops ms os (i + 1)

/-- The plan of a region, if its orders are all alike. -/
def planOf (P : Program) (ops : List Oper) : Option (List (Option (Nat × Nat))) :=
  match orderOK P ops (preOf ops) with
  | true => some (planFrom P ops (preOf ops) ops 0)
  | false => none

/-- Does the operation give the same value in each heap that it may meet? -/
def stableIn (P : Program) (call : CallA) (ops : List Oper) (o : Oper) (t : List Value) (v : Value) : List Heap → Bool
  | [] => true
  | H :: Hs => match exOne P call ops o t H with
    | some (u, _) => match decV u v with
      | isTrue _ => stableIn P call ops o t v Hs
      | isFalse _ => false
    | none => false

def stableAll (P : Program) (call : CallA) (ops : List Oper) (Ms : List Heap) : List (Option (Nat × Nat)) → List Oper → List (List Value × Value) → Bool
  | some (lo, k) :: pl, o :: os, (t, v) :: tr => stableIn P call ops o t v ((Ms.drop lo).take (k + 1)) && stableAll P call ops Ms pl os tr
  | none :: pl, _ :: os, _ :: tr => stableAll P call ops Ms pl os tr
  | _, _, _ => true

/-! ### A region in which what makes or turns objects comes up in any order -/
def noCall : CallA := fun _ _ _ => none
/-- A call that neither takes nor gives an address, and touches nothing that was there. -/
def isoCall (call : CallA) : CallA := fun f args H => match groundL args with
  | true => match call f args Heap.empty with
    | some (.val v, _) => match ground v with | true => some (.val v, H) | false => none
    | _ => none
  | false => none
def isBS (P : Program) (s d : TypeId) : Bool := match P.underlying s, P.underlying d with
  | some (.slice _), some .string => true
  | _, _ => false
/-- An operation whose new object goes to the place r, which was kept for it. -/
def exOpR (P : Program) (call : CallA) (o : Op) (t : List Value) (r : Nat) (H : Heap) : Option (Out × Heap) :=
  match o with
  | .alloc ty => val2 (exAllocAt P ty r H)
  | .box ty x => match evA t x with | some v => val2 (exBoxAt P ty v r H) | none => none
  | .buildSlice ty n ps => match evP t ps.toList with | some l => val2 (exBuildSliceAt P ty n l r H) | none => none
  | .makeMap _ none => some (.val (.map (some r)), H.pushAt r (.map []))
  | .store ty a x => exOp P noCall (.store ty a x) t H
  | .call ⟨.builtin .append, args, ts⟩ => match evL t args.toList with
    | some [s, x] => val2 (exAppendAt P ts.toList s x r H)
    | _ => none
  | .call ⟨.value f, args, ts⟩ => exOp P (isoCall call) (.call ⟨.value f, args, ts⟩) t H
  | .convert sr ds x => match isBS P sr ds || !isW P (.convert sr ds x) with | true => exOp P noCall (.convert sr ds x) t H | false => none
  | o => match isW P o with | true => none | false => exOp P noCall o t H
def needR : Op → Nat
  | .alloc _ | .box _ _ | .buildSlice _ _ _ | .makeMap _ _ => 1
  | .call ⟨.builtin .append, _, _⟩ => 1
  | _ => 0
def exOneR (P : Program) (call : CallA) (ops : List Oper) (o : Oper) (t : List Value) (r : Nat) (H : Heap) : Option (Value × Heap) :=
  match wantA ops o t with
  | false => some (undef, H)
  | true => match exOpR P call o.op t r H with
    | some (.val v, H') => some (v, H')
    | _ => none
/-- The objects that a value names. -/
def idsV : Value → List Nat
  | .pointer (some a) => [a.block]
  | .slice (some a) _ _ => [a.block]
  | .map (some i) => [i]
  | _ => []
def idsO (t : List Value) (x : Operand) : List Nat := match evA t x with | some v => idsV v | none => []
def mapIds : Value → List Nat
  | .map (some i) => [i]
  | _ => []
/-- The objects that an operation looks at which turns none. -/
def readR (P : Program) (o : Op) (t : List Value) : List Nat :=
  match o with
  | .load _ a => idsO t a
  | .lookup _ x _ _ => idsO t x
  | .convert _ _ x => idsO t x
  | .fieldAddr s x f => match P.underlying s with
    | some (.struct fields) => match fields[f]? with
      | some fl => match sizeT P fl.type with
        | some 0 => idsO t x
        | _ => []
      | none => []
    | _ => []
  | .call ⟨.builtin .len, args, _⟩ => args.toList.flatMap fun x => match evA t x with | some v => mapIds v | none => []
  | .call ⟨.builtin .cap, args, _⟩ => args.toList.flatMap (idsO t)
  | _ => []
/-- The objects that an operation may turn; those that it looks at besides. -/
def touchR (P : Program) (o : Op) (t : List Value) (r : Nat) : List Nat × List Nat :=
  match o with
  | .alloc _ | .box _ _ | .buildSlice _ _ _ | .makeMap _ _ => ([r], [])
  | .store _ a _ => (idsO t a, [])
  | .call ⟨.builtin .append, args, _⟩ => (match args.toList with
    | s :: _ => r :: idsO t s
    | _ => [], args.toList.flatMap (idsO t))
  | o => ([], readR P o t)
structure StepR where
  t : List Value
  v : Value
  W : List Nat
  R : List Nat
  H : Heap
def exFreeT (P : Program) (call : CallA) (ops : List Oper) : List Oper → List Value → Nat → Heap → Option (List StepR × List Value × Heap)
  | [], t, _, H => some ([], t, H)
  | o :: rest, t, r, H => match exOneR P call ops o t r H with
    | none => none
    | some (v, H') => match exFreeT P call ops rest (putA t o.dst v) (r + needR o.op) H' with
      | none => none
      | some (st, t', H2) => some (⟨t, v, (touchR P o.op t r).1, (touchR P o.op t r).2, H'⟩ :: st, t', H2)
def clash (a b : StepR) : Bool := a.W.any (fun x => b.W.elem x || b.R.elem x) || b.W.any (fun x => a.R.elem x)
def apartAt (ms : List Nat) (st : List StepR) (i : Nat) : Bool := (List.range i).all fun j => match st[i]?, st[j]? with
  | some a, some b => (ms.getD i 0).testBit j || !clash a b
  | _, _ => true
def apartAll (ms : List Nat) (st : List StepR) : Bool := (List.range st.length).all (apartAt ms st)
def freeAt (ops : List Oper) (ms : List Nat) (i : Nat) : Bool :=
  match ops[i]? with
  | none => true
  | some oi => oi.after.toList.all (fun e => Nat.blt e.on i || !Region.binds .any e) && (List.range i).all fun j =>
    match ops[j]? with
    | none => true
    | some oj => (ms.getD i 0).testBit j || !(confA ops oi oj)
def freeOK (ops : List Oper) (ms : List Nat) : Bool := (List.range ops.length).all (freeAt ops ms)
def needAll : List Oper → Nat
  | [] => 0
  | o :: os => needR o.op + needAll os
def Heap.room : Nat → Heap → Heap
  | 0, H => H
  | k + 1, H => Heap.room k (H.push .dead)
def exFree (P : Program) (call : CallA) (ops : List Oper) (s : St) (H : Heap) : ResA :=
  match freeOK ops (preOf ops) with
  | false => none
  | true => match exFreeT P call ops ops s.t H.n (H.room (needAll ops)) with
    | none => none
    | some (st, t', H2) => match apartAll (preOf ops) st with
      | true => some (.normal, ⟨t', s.ds⟩, H2)
      | false => none


/-! ### A region in which one variable is made at any time, and filled at the end -/
def isAlloc (o : Oper) : Bool := match o.op with | .alloc _ => true | _ => false
def blank (o : Oper) : Oper := match o.op with
  | .alloc _ => ⟨none, .assign (.const (.bool false)), o.type, o.pos, o.after, none⟩
  | _ => o
def lateA (ops : List Oper) : List Oper := (ops.take (ops.length - 1)).map blank
def findAlloc : List Oper → Nat → Option (Nat × Nat × TypeId)
  | [], _ => none
  | o :: os, i => match o.op, o.dst with
    | .alloc ty, some d => some (i, d, ty)
    | .alloc _, none => none
    | _, _ => findAlloc os (i + 1)
def allocAt (p d : Nat) (ty : TypeId) (ops : List Oper) : Bool := match ops[p]? with
  | some oa => (match oa.op with | .alloc ty' => Nat.beq ty' ty | _ => false) && ((match oa.dst with | some d' => Nat.beq d' d | none => false) && oa.guard.isNone)
  | none => false
def otherAt (p d : Nat) (ops : List Oper) (i : Nat) : Bool := Nat.beq i p || (match ops[i]? with | some o => !isAlloc o && (o.guard.isNone && !(slotsOf o).contains d) | none => true)
def isVCall (o : Oper) : Bool := match o.op with | .call ⟨.value _, _, _⟩ => true | _ => false
def isStore (o : Oper) : Bool := match o.op with | .store .. => true | _ => false
def lateOK (ops : List Oper) (p d : Nat) (ty : TypeId) (os : Oper) : Bool :=
  isStore os && (ops.any isVCall && (Nat.blt (p + 1) ops.length && (os.dst.isNone && (os.guard.isNone && (allocAt p d ty ops && ((List.range (ops.length - 1)).all (otherAt p d ops) &&
    (freeOK ops (preOf ops) && (List.range (ops.length - 1)).all fun j => ((preOf ops).getD (ops.length - 1) 0).testBit j)))))))
structure LateQ where
  p : Nat
  d : Nat
  ty : TypeId
  os : Oper
def lateAt (ops : List Oper) : Option LateQ := match findAlloc ops 0, ops[ops.length - 1]? with
  | some (p, d, ty), some os => match lateOK ops p d ty os with | true => some ⟨p, d, ty, os⟩ | false => none
  | _, _ => none
def exLast (P : Program) (q : LateQ) (z : Value) (r : Nat) (ds : List (FuncId × List Value)) (t' : List Value) (H1 : Heap) : ResA :=
  match Nat.blt r H1.n, H1.get r with
  | true, .dead => match exOp P noCall q.os.op (putA t' (some q.d) (.pointer (some ⟨r, 0, none⟩))) (H1.set r (varObj P q.ty z.cells.toList)) with
    | some (.val _, H2) => some (.normal, ⟨putA t' (some q.d) (.pointer (some ⟨r, 0, none⟩)), ds⟩, H2)
    | _ => none
  | _, _ => none
def exLate2 (P : Program) (call : CallA) (ops : List Oper) (q : LateQ) (s : St) (H : Heap) : ResA :=
  match zeroT P q.ty, planOf P (lateA ops) with
  | some z, some pl => match exText P call (lateA ops) (lateA ops) s.t (H.push .dead) with
    | none => none
    | some (tr, hs, t', H1) => match stableAll P call (lateA ops) (H.push .dead :: hs) pl (lateA ops) tr with
      | true => exLast P q z H.n s.ds t' H1
      | false => none
  | _, _ => none
def exNoPlan (P : Program) (call : CallA) (ops : List Oper) (s : St) (H : Heap) : ResA := match lateAt ops with
  | some q => exLate2 P call ops q s H
  | none => exFree P call ops s H
def exDraw (P : Program) (call : CallA) (ops : List Oper) (s : St) (H : Heap) : ResA :=
  match planOf P ops with
  | none => exNoPlan P call ops s H
  | some pl => match exText P call ops ops s.t H with
    | none => none
    | some (tr, hs, t', H2) => match stableAll P call ops (H :: hs) pl ops tr with
      | true => some (.normal, ⟨t', s.ds⟩, H2)
      | false => none

/-! ### Runs of so many steps -/
def runs (P : Program) (E : Hooks) : Nat → Runs
  | 0 => ⟨fun _ _ _ => none, fun _ _ _ => none, fun _ _ _ _ => none⟩
  | n + 1 =>
    ⟨fun f args H => exCall P E (runs P E n) f args H,
     fun c s H => exCode P (runs P E n) (exDraw P (runs P E n).call) c s H,
     fun b c s H => exScope (runs P E n) b c s H⟩

end Go.Vm
