/- What is proved: the run's laws as rewrites, one for each kind of code and of operation; no theorem of the program. -/
import Derived.Test.YtbjcfdopkaekjaaVmI
namespace Go.Vm
open Go.RowKit
set_option linter.unusedSimpArgs false
set_option linter.unusedVariables false
variable {P : Program} {E : Hooks}

/-! ### Code -/
/-- What is held back: no rewrite goes into it ahead of its turn. -/
inductive Held {α : Type} (x : α) : Type where
  | mk
abbrev held {α : Type} (x : α) : Held x := .mk
theorem Held.eq {α : Type} {x : α} (h k : Held x) : h = k := by cases h; cases k; rfl

def thenA (r : ResA) (k : St → Heap → ResA) (_ : Held k) : ResA :=
  match r with
  | some (.normal, s, H) => k s H
  | x => x
def blockA (id : Nat) (r : ResA) : ResA :=
  match r with
  | some (.exit id', s, H) => match Nat.beq id' id with
    | true => some (.normal, s, H)
    | false => some (.exit id', s, H)
  | x => x
def condA (b : Option Value) (x y : ResA) (_ : Held x) (_ : Held y) : ResA :=
  match b with
  | some (.bool true) => x
  | some (.bool false) => y
  | _ => none
def onlyNormal (r : ResA) : ResA :=
  match r with
  | some (.normal, s, H) => some (.normal, s, H)
  | _ => none
/-- One step of a list of operations. -/
def stepO (r : Option (Out × Heap)) (s : St) (k : Value → Heap → ResA) (_ : Held k) : ResA :=
  match r with
  | none => none
  | some (.pan v, H) => some (.pan v, s, H)
  | some (.val v, H) => k v H

@[simp] theorem thenA_normal (s : St) (H : Heap) (k : St → Heap → ResA) (h : Held k) : thenA (some (.normal, s, H)) k h = k s H := id rfl
@[simp] theorem thenA_ret (s : St) (H : Heap) (k : St → Heap → ResA) (h : Held k) : thenA (some (.ret, s, H)) k h = some (.ret, s, H) := id rfl
@[simp] theorem thenA_exit (i : Nat) (s : St) (H : Heap) (k : St → Heap → ResA) (h : Held k) : thenA (some (.exit i, s, H)) k h = some (.exit i, s, H) := id rfl
@[simp] theorem thenA_goto (i : Nat) (s : St) (H : Heap) (k : St → Heap → ResA) (h : Held k) : thenA (some (.goto i, s, H)) k h = some (.goto i, s, H) := id rfl
@[simp] theorem thenA_pan (v : Value) (s : St) (H : Heap) (k : St → Heap → ResA) (h : Held k) : thenA (some (.pan v, s, H)) k h = some (.pan v, s, H) := id rfl
@[simp] theorem thenA_none (k : St → Heap → ResA) (h : Held k) : thenA none k h = none := id rfl
@[simp] theorem condA_true (x y : ResA) (hx : Held x) (hy : Held y) : condA (some (.bool true)) x y hx hy = x := id rfl
@[simp] theorem condA_false (x y : ResA) (hx : Held x) (hy : Held y) : condA (some (.bool false)) x y hx hy = y := id rfl
@[simp] theorem condA_none (x y : ResA) (hx : Held x) (hy : Held y) : condA none x y hx hy = none := id rfl
theorem condA_bool (b : Bool) (x y : ResA) (hx : Held x) (hy : Held y) : condA (some (.bool b)) x y hx hy = if b = true then x else y := by cases b <;> rfl
@[simp] theorem blockA_exit (id id' : Nat) (s : St) (H : Heap) : blockA id (some (.exit id', s, H)) = if id' = id then some (.normal, s, H) else some (.exit id', s, H) := by
  unfold blockA
  cases hb : Nat.beq id' id with
  | true => have := Nat.eq_of_beq_eq_true hb; simp [hb, this]
  | false => have := Nat.ne_of_beq_eq_false hb; simp [hb, this]
@[simp] theorem blockA_normal (i : Nat) (s : St) (H : Heap) : blockA i (some (.normal, s, H)) = some (.normal, s, H) := id rfl
@[simp] theorem blockA_ret (i : Nat) (s : St) (H : Heap) : blockA i (some (.ret, s, H)) = some (.ret, s, H) := id rfl
@[simp] theorem blockA_goto (j i : Nat) (s : St) (H : Heap) : blockA j (some (.goto i, s, H)) = some (.goto i, s, H) := id rfl
@[simp] theorem blockA_pan (i : Nat) (v : Value) (s : St) (H : Heap) : blockA i (some (.pan v, s, H)) = some (.pan v, s, H) := id rfl
@[simp] theorem blockA_none (i : Nat) : blockA i none = none := id rfl
@[simp] theorem stepO_val (v : Value) (H : Heap) (s : St) (k : Value → Heap → ResA) (h : Held k) : stepO (some (.val v, H)) s k h = k v H := id rfl
@[simp] theorem stepO_pan (v : Value) (H : Heap) (s : St) (k : Value → Heap → ResA) (h : Held k) : stepO (some (.pan v, H)) s k h = some (.pan v, s, H) := id rfl
@[simp] theorem stepO_none (s : St) (k : Value → Heap → ResA) (h : Held k) : stepO none s k h = none := id rfl
@[simp] theorem onlyNormal_normal (s : St) (H : Heap) : onlyNormal (some (.normal, s, H)) = some (.normal, s, H) := id rfl

theorem thenA_if (c : Prop) [Decidable c] (x y : ResA) (k : St → Heap → ResA) (h : Held k) : thenA (if c then x else y) k h = if c then thenA x k h else thenA y k h := by split <;> rfl

@[simp] theorem code_skip (s : St) (H : Heap) : (run P E).code .skip s H = some (.normal, s, H) := by rw [run_code]; rfl
@[simp] theorem code_label (l : Nat) (s : St) (H : Heap) : (run P E).code (.label l) s H = some (.normal, s, H) := by rw [run_code]; rfl
@[simp] theorem code_ret (s : St) (H : Heap) : (run P E).code .ret s H = some (.ret, s, H) := by rw [run_code]; rfl
@[simp] theorem code_exit (i : Nat) (s : St) (H : Heap) : (run P E).code (.exit i) s H = some (.exit i, s, H) := by rw [run_code]; rfl
@[simp] theorem code_goto (i : Nat) (s : St) (H : Heap) : (run P E).code (.goto i) s H = some (.goto i, s, H) := by rw [run_code]; rfl
@[simp] theorem code_seq (a b : Code) (s : St) (H : Heap) : (run P E).code (.seq a b) s H = thenA ((run P E).code a s H) ((run P E).code b) (held _) := by rw [run_code]; rfl
@[simp] theorem code_cond (c : Operand) (a b : Code) (s : St) (H : Heap) : (run P E).code (.cond c a b) s H = condA (evA s.t c) ((run P E).code a s H) ((run P E).code b s H) (held _) (held _) := by rw [run_code]; rfl
@[simp] theorem code_block (id : Nat) (c : Code) (s : St) (H : Heap) : (run P E).code (.block id c) s H = blockA id ((run P E).code c s H) := by rw [run_code]; rfl
theorem code_loop (c : Code) (s : St) (H : Heap) : (run P E).code (.loop c) s H = thenA ((run P E).code c s H) ((run P E).code (.loop c)) (held _) := by rw [run_code]; rfl
@[simp] theorem code_text (id : Nat) (ops : Array Oper) (s : St) (H : Heap) : (run P E).code (.region id ops false) s H = exList P (run P E).call ops.toList ops.toList s H := by rw [run_code]; rfl

/-! ### A list of operations -/
@[simp] theorem exList_nil (call : CallA) (ops : List Oper) (s : St) (H : Heap) : exList P call ops [] s H = some (.normal, s, H) := id rfl
/-- A step, or what is deferred. -/
def stepD (d : Option Call) (r : Option (Out × Heap)) (s : St) (dst : Option Tmp) (H : Heap) (k : St → Heap → ResA) (_ : Held r) (_ : Held k) : ResA :=
  match d with
  | some c => match exDefer c s.t with
    | some x => k ⟨putA s.t dst undef, x :: s.ds⟩ H
    | none => none
  | none => stepO r s (fun v H' => k ⟨putA s.t dst v, s.ds⟩ H') (held _)
@[simp] theorem stepD_none (r : Option (Out × Heap)) (s : St) (dst : Option Tmp) (H : Heap) (k : St → Heap → ResA) (hr : Held r) (hk : Held k) : stepD none r s dst H k hr hk = stepO r s (fun v H' => k ⟨putA s.t dst v, s.ds⟩ H') (held _) := id rfl
def deferA (x : Option (FuncId × List Value)) (s : St) (dst : Option Tmp) (H : Heap) (k : St → Heap → ResA) (_ : Held k) : ResA :=
  match x with
  | some x => k ⟨putA s.t dst undef, x :: s.ds⟩ H
  | none => none
@[simp] theorem deferA_some (x : FuncId × List Value) (s : St) (dst : Option Tmp) (H : Heap) (k : St → Heap → ResA) (hk : Held k) : deferA (some x) s dst H k hk = k ⟨putA s.t dst undef, x :: s.ds⟩ H := id rfl
@[simp] theorem stepD_some (c : Call) (r : Option (Out × Heap)) (s : St) (dst : Option Tmp) (H : Heap) (k : St → Heap → ResA) (hr : Held r) (hk : Held k) : stepD (some c) r s dst H k hr hk = deferA (exDefer c s.t) s dst H k (held _) := id rfl
@[simp] theorem exList_plain (call : CallA) (ops rest : List Oper) (dst : Option Tmp) (op : Op) (ty : TypeId) (pos : String) (after : Array Edge) (s : St) (H : Heap) :
    exList P call ops (⟨dst, op, ty, pos, after, none⟩ :: rest) s H = stepD (deferOf op) (exOp P call op s.t H) s dst H (exList P call ops rest) (held _) (held _) := by
  simp only [exList, wantA]
  cases deferOf op with
  | none => rfl
  | some c => rfl
def isB (w : Bool) : Value → Bool
  | .bool b => b == w
  | _ => false
@[simp] theorem isB_bool (w b : Bool) : isB w (.bool b) = (b == w) := id rfl
@[simp] theorem isB_undef (w : Bool) : isB w undef = false := id rfl
def dstOf (ops : List Oper) (j : Nat) : Option Nat := (ops[j]?).bind (·.dst)
def guardD (d : Option Nat) (w : Bool) (t : List Value) : Bool :=
  match d with
  | some d => isB w (t.getD d undef)
  | none => false
def guardOf (ops : List Oper) (j : Nat) (w : Bool) (t : List Value) : Bool := guardD (dstOf ops j) w t
theorem guardOf_eq (ops : List Oper) (o : Oper) (j : Nat) (w : Bool) (t : List Value) (h : o.guard = some (j, w)) : wantA ops o t = guardOf ops j w t := by
  simp only [wantA, h, guardOf, dstOf, guardD]
  cases (ops[j]?).bind (·.dst) with
  | none => rfl
  | some d =>
    simp only []
    rw [List.getD_eq_getElem?_getD]
    cases t[d]? with
    | none => rfl
    | some v => cases v <;> rfl
@[simp] theorem exList_guard (call : CallA) (ops rest : List Oper) (dst : Option Tmp) (op : Op) (ty : TypeId) (pos : String) (after : Array Edge) (j : Nat) (w : Bool) (s : St) (H : Heap) :
    exList P call ops (⟨dst, op, ty, pos, after, some (j, w)⟩ :: rest) s H =
      condA (some (.bool (guardOf ops j w s.t))) (stepD (deferOf op) (exOp P call op s.t H) s dst H (exList P call ops rest) (held _) (held _)) (exList P call ops rest ⟨putA s.t dst undef, s.ds⟩ H) (held _) (held _) := by
  have e : wantA ops ⟨dst, op, ty, pos, after, some (j, w)⟩ s.t = guardOf ops j w s.t := guardOf_eq ops _ j w s.t rfl
  simp only [exList, e]
  cases guardOf ops j w s.t with
  | true => cases deferOf op <;> rfl
  | false => rfl

/-! ### A region whose order is drawn, in which nothing that is read is written -/
def quiet (P : Program) (ops : List Oper) : Bool :=
  (match planOf P ops with | some pl => pl.all (·.isNone) | none => false) && ops.all fun o => (deferOf o.op).isNone

theorem stableAll_quiet {call : CallA} {ops : List Oper} {Ms : List Heap} : ∀ {pl : List (Option (Nat × Nat))} {os : List Oper} {tr : List (List Value × Value)}, pl.all (·.isNone) = true → stableAll P call ops Ms pl os tr = true
  | [], _, _, _ => by simp [stableAll]
  | some _ :: _, _, _, h => by simp at h
  | none :: pl, [], _, h => by simp [stableAll]
  | none :: pl, _ :: _, [], h => by simp [stableAll]
  | none :: pl, _ :: _, _ :: _, h => by
    simp only [stableAll]
    exact stableAll_quiet (by simpa using h)

theorem exText_list {call : CallA} {ops : List Oper} : ∀ (rest : List Oper) (s : St) (H : Heap), (rest.all fun o => (deferOf o.op).isNone) = true →
    onlyNormal (exList P call ops rest s H) = match exText P call ops rest s.t H with | some (_, _, t', H2) => some (.normal, ⟨t', s.ds⟩, H2) | none => none
  | [], s, H, _ => rfl
  | o :: rest, s, H, h => by
    simp only [List.all_cons, Bool.and_eq_true, Option.isNone_iff_eq_none] at h
    have ih := exText_list (call := call) (ops := ops) rest
    simp only [exList, exText, exOne, h.1]
    cases hw : wantA ops o s.t with
    | false =>
      simp only []
      rw [ih ⟨putA s.t o.dst undef, s.ds⟩ H h.2]
      simp only []
      cases exText P call ops rest (putA s.t o.dst undef) H with
      | none => rfl
      | some q => obtain ⟨a, b, c, d⟩ := q; simp only []; cases isW P o.op <;> rfl
    | true =>
      simp only []
      cases ho : exOp P call o.op s.t H with
      | none => rfl
      | some p =>
        obtain ⟨out, H1⟩ := p
        cases out with
        | pan v => rfl
        | val v =>
          simp only []
          rw [ih ⟨putA s.t o.dst v, s.ds⟩ H1 h.2]
          simp only []
          cases exText P call ops rest (putA s.t o.dst v) H1 with
          | none => rfl
          | some q => obtain ⟨a, b, c, d⟩ := q; simp only []; cases isW P o.op <;> rfl

theorem code_draw (id : Nat) (ops : Array Oper) (s : St) (H : Heap) (h : quiet P ops.toList = true) : (run P E).code (.region id ops true) s H = onlyNormal (exList P (run P E).call ops.toList ops.toList s H) := by
  unfold quiet at h
  rw [Bool.and_eq_true] at h
  rw [run_code, exText_list ops.toList s H h.2]
  show exDraw P (run P E).call ops.toList s H = _
  unfold exDraw
  cases hp : planOf P ops.toList with
  | none => rw [hp] at h; simp at h
  | some pl =>
    rw [hp] at h
    simp only []
    cases exText P (run P E).call ops.toList ops.toList s.t H with
    | none => rfl
    | some q =>
      obtain ⟨tr, hs, t', H2⟩ := q
      simp only []
      rw [stableAll_quiet h.1]

/-! ### Calls -/
theorem call_eq {f : FuncId} {fn : Func} {c : Code} (hf : P.funcs[f]? = some fn) (hb : fn.body = some c) (hn : (fn.name == "runtime.NumGoroutine") = false) (hE : E.has f = false) (args : List Value) (H : Heap) :
    (run P E).call f args H = exBody P E (run P E) fn c args H := by
  rw [run_call]; unfold exCall; rw [hE]; simp only [hf, hb, hn]

def bodyA (P : Program) (E : Hooks) (r : Runs) (rs : List ResultVar) (x : ResA) : Option (Out × Heap) :=
  match x with
  | some (e, s, H') => match exLeave P E r s.ds H' with
    | some H2 => match e with
      | .pan v => match recs P s.ds with | true => none | false => some (.pan v, H2)
      | .normal | .ret => (exResults P rs s.t H2).map fun l => (.val (tupleOf l), H2)
      | _ => none
    | none => none
  | none => none
@[simp] theorem bodyA_ret (r : Runs) (rs : List ResultVar) (t : List Value) (H : Heap) : bodyA P E r rs (some (.ret, ⟨t, []⟩, H)) = (exResults P rs t H).map fun l => (.val (tupleOf l), H) := id rfl
@[simp] theorem bodyA_normal (r : Runs) (rs : List ResultVar) (t : List Value) (H : Heap) : bodyA P E r rs (some (.normal, ⟨t, []⟩, H)) = (exResults P rs t H).map fun l => (.val (tupleOf l), H) := id rfl
@[simp] theorem bodyA_pan (r : Runs) (rs : List ResultVar) (v : Value) (t : List Value) (H : Heap) : bodyA P E r rs (some (.pan v, ⟨t, []⟩, H)) = some (.pan v, H) := id rfl
theorem bodyA_congr {x x' : ResA} (h : x = x') (r : Runs) (rs : List ResultVar) : bodyA P E r rs x = bodyA P E r rs x' := by rw [h]

theorem call_body {f : FuncId} {fn : Func} {c : Code} (hf : P.funcs[f]? = some fn) (hb : fn.body = some c) (hn : (fn.name == "runtime.NumGoroutine") = false) (hE : E.has f = false) (args : List Value) (H : Heap) :
    (run P E).call f args H = bodyA P E (run P E) fn.results.toList ((run P E).code c ⟨slotsAt fn args, []⟩ H) := by
  rw [call_eq hf hb hn hE]; rfl

@[simp] theorem tupleOf_nil : tupleOf [] = .tuple #[] := id rfl
@[simp] theorem tupleOf_one (v : Value) : tupleOf [v] = v := id rfl
@[simp] theorem tupleOf_two (v u : Value) (l : List Value) : tupleOf (v :: u :: l) = .tuple ⟨v :: u :: l⟩ := id rfl

end Go.Vm

namespace Go.Vm
open Go.RowKit
set_option linter.unusedSimpArgs false
set_option linter.unusedVariables false
variable {P : Program} {E : Hooks} {call : CallA} {t : List Value} {H : Heap}

/-! ### Operands -/
/-- A slot's value. -/
def rd (t : List Value) (k : Nat) : Value := t.getD k undef
/-- A frame: what it was at first, and what has been written since, the last first. -/
def Fr (t : List Value) : List (Nat × Value) → List Value
  | [] => t
  | (k, v) :: l => (Fr t l).set k v
def look (t : List Value) (k : Nat) : List (Nat × Value) → Value
  | [] => rd t k
  | (k', v) :: l => if k = k' then v else look t k l
/-- A frame at a function's start. -/
def Bs (n : Nat) (args : List Value) : List Value := args ++ List.replicate (n - args.length) undef
@[simp] theorem Fr_set (l : List (Nat × Value)) (k : Nat) (v : Value) : (Fr t l).set k v = Fr t ((k, v) :: l) := id rfl
@[simp] theorem Fr_len (l : List (Nat × Value)) : (Fr t l).length = t.length := by
  induction l with
  | nil => rfl
  | cons p l ih => obtain ⟨k, v⟩ := p; simp only [Fr, List.length_set, ih]
theorem rd_Fr (l : List (Nat × Value)) (k : Nat) (h : k < t.length) : rd (Fr t l) k = look t k l := by
  induction l with
  | nil => rfl
  | cons p l ih =>
    obtain ⟨k', v⟩ := p
    simp only [look, Fr]
    rw [← ih]
    unfold rd
    rw [List.getD_eq_getElem?_getD, List.getElem?_set, List.getD_eq_getElem?_getD]
    by_cases e : k' = k
    · subst e
      rw [if_pos rfl, if_pos rfl, if_pos (by rw [Fr_len]; exact h)]
      rfl
    · rw [if_neg e, if_neg (fun h => e h.symm)]
@[simp] theorem look_nil (k : Nat) : look t k [] = rd t k := id rfl
@[simp] theorem look_cons (k k' : Nat) (v : Value) (l : List (Nat × Value)) : look t k ((k', v) :: l) = if k = k' then v else look t k l := id rfl
@[simp] theorem rd_Bs (n : Nat) (args : List Value) (k : Nat) : rd (Bs n args) k = rd args k := by
  unfold rd Bs
  rw [List.getD_eq_getElem?_getD, List.getD_eq_getElem?_getD]
  rcases Nat.lt_or_ge k args.length with h | h
  · rw [List.getElem?_append_left h]
  · rw [List.getElem?_append_right h, List.getElem?_eq_none h, List.getElem?_replicate]
    split <;> rfl
theorem len_Bs (n : Nat) (args : List Value) (h : args.length ≤ n) : (Bs n args).length = n := by
  simp [Bs]; omega
@[simp] theorem rd_zero (v : Value) (l : List Value) : rd (v :: l) 0 = v := id rfl
@[simp] theorem rd_succ (v : Value) (l : List Value) (k : Nat) : rd (v :: l) (k + 1) = rd l k := id rfl
@[simp] theorem rd_nil (k : Nat) : rd [] k = undef := by simp [rd]
/-- The slots of a frame of n slots. -/
@[simp] theorem rd_FrBs (n : Nat) (args : List Value) (l : List (Nat × Value)) (k : Nat) (h : args.length ≤ n) (hk : k < n) : rd (Fr (Bs n args) l) k = look args k l := by
  rw [rd_Fr l k (by rw [len_Bs n args h]; exact hk)]
  induction l with
  | nil => simp
  | cons p l ih => obtain ⟨k', v⟩ := p; simp only [look]; rw [ih]
@[simp] theorem evA_tmp (k : Nat) : evA t (.tmp k) = some (rd t k) := id rfl
@[simp] theorem evA_func (f : FuncId) : evA t (.func f) = some (.func (.func f) #[] #[]) := id rfl
@[simp] theorem evA_const (v : Value) : evA t (.const v) = if ground v = true then some v else none := by
  simp only [evA]; split <;> simp_all
@[simp] theorem ground_bool (b : Bool) : ground (.bool b) = true := id rfl
@[simp] theorem ground_int (k : IntKind) (n : Int) : ground (.int k n) = true := id rfl
@[simp] theorem ground_string (s : ByteArray) : ground (.string s) = true := id rfl
@[simp] theorem ground_pnil : ground (.pointer none) = true := id rfl
@[simp] theorem ground_ptr (a : Addr) : ground (.pointer (some a)) = false := id rfl
@[simp] theorem ground_snil (l c : Nat) : ground (.slice none l c) = true := id rfl
@[simp] theorem ground_slice (a : Addr) (l c : Nat) : ground (.slice (some a) l c) = false := id rfl
@[simp] theorem ground_mnil : ground (.map none) = true := id rfl
@[simp] theorem ground_map (a : Nat) : ground (.map (some a)) = false := id rfl
@[simp] theorem ground_nilFunc : ground .nilFunc = true := id rfl
@[simp] theorem ground_nilIface : ground .nilIface = true := id rfl
@[simp] theorem ground_iface (ty : TypeId) (v : Value) : ground (.iface ty v) = ground v := id rfl
@[simp] theorem evL_nil : evL t [] = some [] := id rfl
@[simp] theorem evL_cons (x : Operand) (xs : List Operand) : evL t (x :: xs) = (evA t x).bind fun v => (evL t xs).map (v :: ·) := by
  simp only [evL]; cases evA t x <;> cases evL t xs <;> rfl
@[simp] theorem evO_none : evO t none = some none := id rfl
@[simp] theorem evO_some (x : Operand) : evO t (some x) = (evA t x).map some := id rfl
@[simp] theorem evP_nil : evP t [] = some [] := id rfl
@[simp] theorem evP_cons (i : Nat) (x : Operand) (xs : List (Nat × Operand)) : evP t ((i, x) :: xs) = (evA t x).bind fun v => (evP t xs).map ((i, v) :: ·) := by
  simp only [evP]; cases evA t x <;> cases evP t xs <;> rfl
@[simp] theorem putA_some (d : Nat) (v : Value) : putA t (some d) v = t.set d v := id rfl
@[simp] theorem putA_none (v : Value) : putA t none v = t := id rfl
@[simp] theorem val1_some' (v : Value) : val1 (some v) H = some (.val v, H) := id rfl
@[simp] theorem val2_some' (v : Value) : val2 (some (v, H)) = some (.val v, H) := id rfl
@[simp] theorem skip1_some' : skip1 (some H) = some (.val undef, H) := id rfl
@[simp] theorem ifGround_bool (b : Bool) : ifGround (some (.bool b)) = some (.bool b) := id rfl
@[simp] theorem ifGround_int (k : IntKind) (n : Int) : ifGround (some (.int k n)) = some (.int k n) := id rfl
@[simp] theorem ifGround_string (s : ByteArray) : ifGround (some (.string s)) = some (.string s) := id rfl

/-! ### Operations -/
@[simp] theorem op_move (x : Operand) : exOp P call (.move x) t H = val1 (evA t x) H := id rfl
@[simp] theorem op_assign (x : Operand) : exOp P call (.assign x) t H = val1 (evA t x) H := id rfl
def pickA (c : Option Value) (a b : Option Value) (H : Heap) : Option (Out × Heap) :=
  match c with | some (.bool true) => val1 a H | some (.bool false) => val1 b H | _ => none
@[simp] theorem op_pick (c a b : Operand) : exOp P call (.pick c a b) t H = pickA (evA t c) (evA t a) (evA t b) H := by
  simp only [exOp]; unfold pickA
  cases evA t c with
  | none => rfl
  | some v => cases v <;> first | rfl | (rename_i b; cases b <;> rfl)
@[simp] theorem pickA_bool (b : Bool) (x y : Value) : pickA (some (.bool b)) (some x) (some y) H = some (.val (if b = true then x else y), H) := by cases b <;> rfl
@[simp] theorem op_alloc (ty : TypeId) : exOp P call (.alloc ty) t H = val2 (exAlloc P ty H) := id rfl
@[simp] theorem op_box (ty : TypeId) (x : Operand) : exOp P call (.box ty x) t H = val2 ((evA t x).bind fun v => exBox P ty v H) := by
  simp only [exOp]; cases evA t x <;> rfl
@[simp] theorem op_build (ty : TypeId) (ps : Array (Nat × Operand)) : exOp P call (.build ty ps) t H = val1 ((evP t ps.toList).bind fun l => exBuild P ty l) H := by
  simp only [exOp]; cases evP t ps.toList <;> rfl
@[simp] theorem op_buildSlice (ty : TypeId) (n : Nat) (ps : Array (Nat × Operand)) : exOp P call (.buildSlice ty n ps) t H = val2 ((evP t ps.toList).bind fun l => exBuildSlice P ty n l H) := by
  simp only [exOp]; cases evP t ps.toList <;> rfl
@[simp] theorem op_load (ty : TypeId) (x : Operand) : exOp P call (.load ty x) t H = val1 ((evA t x).bind fun v => exLoad P ty v H) H := by
  simp only [exOp]; cases evA t x <;> rfl
@[simp] theorem op_store (ty : TypeId) (a x : Operand) : exOp P call (.store ty a x) t H = skip1 ((evA t a).bind fun v => (evA t x).bind fun u => exStore P ty v u H) := by
  simp only [exOp]; cases evA t a <;> cases evA t x <;> rfl
def nilA (v : Option Value) (H : Heap) : Option (Out × Heap) :=
  match v with
  | some (.pointer (some a)) => some (.val (.pointer (some a)), H)
  | some (.func (.func f) a c) => some (.val (.func (.func f) a c), H)
  | _ => none
@[simp] theorem op_nilCheck (x : Operand) : exOp P call (.nilCheck x) t H = nilA (evA t x) H := id rfl
@[simp] theorem nilA_ptr (a : Addr) : nilA (some (.pointer (some a))) H = some (.val (.pointer (some a)), H) := id rfl
@[simp] theorem nilA_func (f : FuncId) (a c : Array Value) : nilA (some (.func (.func f) a c)) H = some (.val (.func (.func f) a c), H) := id rfl
@[simp] theorem op_binOp (op : BinOp) (ty r : TypeId) (x y : Operand) : exOp P call (.binOp op ty x y r) t H = val1 ((evA t x).bind fun a => (evA t y).bind fun b => exBin P op ty x y a b) H := by
  simp only [exOp]; cases evA t x <;> cases evA t y <;> rfl
def unA (P : Program) (op : UnOp) (v : Option Value) : Option Value :=
  match v with
  | some a => match ground a with | true => ifGround (pureRun P (Op.unary op a)) | false => none
  | none => none
@[simp] theorem op_unOp (op : UnOp) (ty : TypeId) (x : Operand) : exOp P call (.unOp op ty x) t H = val1 (unA P op (evA t x)) H := by
  simp only [exOp]; unfold unA
  cases evA t x with
  | none => rfl
  | some a => simp only []; cases ground a <;> rfl
@[simp] theorem unA_not (b : Bool) : unA P .not (some (.bool b)) = some (.bool !b) := id rfl
@[simp] theorem unA_neg (k : IntKind) (n : Int) : unA P .neg (some (.int k n)) = some (.int k (k.wrap (0 - n))) := id rfl
@[simp] theorem op_convert (s d : TypeId) (x : Operand) : exOp P call (.convert s d x) t H = val2 ((evA t x).bind fun v => exConvert P s d v H) := by
  simp only [exOp]; cases evA t x <;> rfl
def ifaceA (P : Program) (ty : TypeId) (v : Option Value) (H : Heap) : Option (Out × Heap) :=
  match v with
  | some v => match P.underlying ty with
    | some (.interface _) | none => none
    | some _ => some (.val (.iface ty v), H)
  | none => none
@[simp] theorem op_makeInterface (ty : TypeId) (x : Operand) : exOp P call (.makeInterface ty x) t H = ifaceA P ty (evA t x) H := id rfl
@[simp] theorem op_makeFunc (f : FuncId) (a c : Array Operand) : exOp P call (.makeFunc (.func f) a c) t H = ((evL t a.toList).bind fun x => (evL t c.toList).map fun y => (.val (.func (.func f) ⟨x⟩ ⟨y⟩), H)) := by
  simp only [exOp]; cases evL t a.toList <;> cases evL t c.toList <;> rfl
@[simp] theorem op_makeMap (ty : TypeId) : exOp P call (.makeMap ty none) t H = some (.val (.map (some H.n)), H.push (.map [])) := id rfl
@[simp] theorem op_makeSlice (ty : TypeId) (l c : Operand) : exOp P call (.makeSlice ty l c) t H = val2 ((evA t l).bind fun a => (evA t c).bind fun b => exMakeSlice P ty a b H) := by
  simp only [exOp]; cases evA t l <;> cases evA t c <;> rfl
@[simp] theorem op_slice (ty : TypeId) (x : Operand) (lo hi mx : Option Operand) : exOp P call (.slice ty x lo hi mx) t H =
    val2 ((evA t x).bind fun v => (evO t lo).bind fun l => (evO t hi).bind fun h => (evO t mx).bind fun m => exSlice P ty v l h m H) := by
  simp only [exOp]; cases evA t x <;> cases evO t lo <;> cases evO t hi <;> cases evO t mx <;> rfl
@[simp] theorem op_fieldAddr (s : TypeId) (x : Operand) (f : Nat) : exOp P call (.fieldAddr s x f) t H = val1 ((evA t x).bind fun v => exField P s v f H) H := by
  simp only [exOp]; cases evA t x <;> rfl
def fieldA (P : Program) (ty : TypeId) (v : Option Value) (f : Nat) : Option Value :=
  match v with
  | some (.agg cs) => match P.underlying ty with
    | some (.struct fields) => match fields[f]? with
      | some fl => partA P fl.type cs.toList fl.offset
      | none => none
    | _ => none
  | _ => none
@[simp] theorem op_field (ty : TypeId) (x : Operand) (f : Nat) : exOp P call (.field ty x f) t H = val1 (fieldA P ty (evA t x) f) H := by
  simp only [exOp]; unfold fieldA
  cases evA t x with
  | none => rfl
  | some v =>
    cases v <;> first | rfl | skip
    rename_i cs
    cases P.underlying ty with
    | none => rfl
    | some d => cases d <;> first | rfl | skip
                rename_i fields
                simp only []
                cases fields[f]? <;> rfl
@[simp] theorem op_indexAddr (ty : TypeId) (x i : Operand) : exOp P call (.indexAddr ty x i) t H = val1 ((evA t x).bind fun v => (evA t i).bind fun k => exIndex P ty v k) H := by
  simp only [exOp]; cases evA t x <;> cases evA t i <;> rfl
@[simp] theorem op_lookup (ty : TypeId) (x i : Operand) (ok : Bool) : exOp P call (.lookup ty x i ok) t H = val1 ((evA t x).bind fun v => (evA t i).bind fun k => exLookup P ty v k ok H) H := by
  simp only [exOp]; cases evA t x <;> cases evA t i <;> rfl
@[simp] theorem op_mapUpdate (ty : TypeId) (m k x : Operand) : exOp P call (.mapUpdate ty m k x) t H = skip1 ((evA t m).bind fun v => (evA t k).bind fun q => (evA t x).bind fun u => exMapPut P ty v q u H) := by
  simp only [exOp]; cases evA t m <;> cases evA t k <;> cases evA t x <;> rfl
@[simp] theorem op_insert (ty : TypeId) (m k x : Operand) : exOp P call (.insert ty m k x) t H = skip1 ((evA t m).bind fun v => (evA t k).bind fun q => (evA t x).bind fun u => exMapPut P ty v q u H) := by
  simp only [exOp]; cases evA t m <;> cases evA t k <;> cases evA t x <;> rfl
def extractA (v : Option Value) (i : Nat) : Option Value :=
  match v with
  | some (.tuple vs) => vs.toList[i]?
  | _ => none
@[simp] theorem op_extract (x : Operand) (i : Nat) : exOp P call (.extract x i) t H = val1 (extractA (evA t x) i) H := by
  simp only [exOp]; unfold extractA
  cases evA t x with
  | none => rfl
  | some v => cases v <;> rfl
@[simp] theorem extractA_tuple (vs : List Value) (i : Nat) : extractA (some (.tuple ⟨vs⟩)) i = vs[i]? := id rfl
def callV (call : CallA) (f : Option Value) (args : List Value) (H : Heap) : Option (Out × Heap) :=
  match f with
  | some (.func (.func g) first captured) => call g (first.toList ++ args ++ captured.toList) H
  | _ => none
@[simp] theorem op_call (f : Operand) (args : Array Operand) (ts : Array TypeId) : exOp P call (.call ⟨.value f, args, ts⟩) t H = (evL t args.toList).bind fun l => callV call (evA t f) l H := by
  simp only [exOp, exCallOp]; cases evL t args.toList <;> rfl
@[simp] theorem callV_func (g : FuncId) (a c : List Value) (args : List Value) : callV call (some (.func (.func g) ⟨a⟩ ⟨c⟩)) args H = call g (a ++ args ++ c) H := id rfl
def callI (P : Program) (call : CallA) (r : Option Value) (m : String) (args : List Value) (H : Heap) : Option (Out × Heap) :=
  match r with
  | some (.iface t v) => (exMethod P t m).bind fun f => call f (v :: args) H
  | _ => none
@[simp] theorem callI_iface (call : CallA) (ty : TypeId) (v : Value) (m : String) (args : List Value) : callI P call (some (.iface ty v)) m args H = (exMethod P ty m).bind fun f => call f (v :: args) H := id rfl
@[simp] theorem op_invoke (r : Operand) (m : String) (args : Array Operand) (ts : Array TypeId) : exOp P call (.call ⟨.invoke r m, args, ts⟩) t H = (evL t args.toList).bind fun l => callI P call (evA t r) m l H := by
  simp only [exOp, exCallOp]
  cases evL t args.toList with
  | none => rfl
  | some l =>
    simp only [Option.bind_some]
    unfold callI
    cases evA t r with
    | none => rfl
    | some v => cases v <;> first | rfl | skip
                rename_i ty v
                simp only []
                cases exMethod P ty m <;> rfl
@[simp] theorem op_builtin (b : Builtin) (args : Array Operand) (ts : Array TypeId) : exOp P call (.call ⟨.builtin b, args, ts⟩) t H = (evL t args.toList).bind fun l => exBuiltin P b ts.toList l H := by
  simp only [exOp, exCallOp]; cases evL t args.toList <;> rfl
@[simp] theorem bi_append (ts : List TypeId) (s x : Value) : exBuiltin P .append ts [s, x] H = val2 (exAppend P ts s x H) := id rfl
@[simp] theorem bi_copy (ts : List TypeId) (s x : Value) : exBuiltin P .copy ts [s, x] H = val2 (exCopy P ts s x H) := id rfl
@[simp] theorem bi_clear (ts : List TypeId) (x : Value) : exBuiltin P .clear ts [x] H = (exClear P ts x H).map fun H' => (.val (.tuple #[]), H') := id rfl
@[simp] theorem bi_len (ts : List TypeId) (x : Value) : exBuiltin P .len ts [x] H = val1 (exLen P ts x H) H := id rfl
@[simp] theorem bi_cap (ts : List TypeId) (x : Value) : exBuiltin P .cap ts [x] H = val1 (exCap P ts x H) H := id rfl
@[simp] theorem op_panic (x : Operand) : exOp P call (.panic x) t H = match evA t x with | some (.iface ty v) => some (.pan (.iface ty v), H) | _ => none := id rfl

/-! ### Numbers and comparisons -/
@[simp] theorem pureRun_pure {α : Type} (a : α) : pureRun P (pure a) = some a := id rfl
@[simp] theorem pureRun_pure' {α : Type} (a : α) : pureRun P (Sem.pure a) = some a := id rfl
@[simp] theorem pureRun_program {α : Type} (k : Program → Sem α) : pureRun P (Sem.program k) = pureRun P (k P) := id rfl
theorem pureRun_bind {α β : Type} (f : α → Sem β) : ∀ (s : Sem α) (a : α), pureRun P s = some a → pureRun P (s >>= f) = pureRun P (f a) := by
  intro s
  induction s with
  | pure a => intro b h; simp only [pureRun, Option.some.injEq] at h; subst h; rfl
  | program k ih => intro b h; exact ih P b h
  | mark m k ih => intro b h; exact ih b h
  | _ => intro b h; simp [pureRun] at h
theorem pureRun_underlying {t : TypeId} {d : TypeDesc} (h : P.underlying t = some d) : pureRun P (underlying t) = some d := by
  unfold underlying
  rw [pureRun_bind (a := P) _ _ rfl]
  simp only [h]
  rfl

@[simp] theorem bin_add (ty : TypeId) (x y : Operand) (k : IntKind) (a b : Int) : exBin P .add ty x y (.int k a) (.int k b) = some (.int k (k.wrap (a + b))) := by
  simp [exBin, ground, eqGuard, binOp, Op.intArith, pureRun_pure]
@[simp] theorem bin_sub (ty : TypeId) (x y : Operand) (k : IntKind) (a b : Int) : exBin P .sub ty x y (.int k a) (.int k b) = some (.int k (k.wrap (a - b))) := by
  simp [exBin, ground, eqGuard, binOp, Op.intArith, pureRun_pure]
@[simp] theorem bin_mul (ty : TypeId) (x y : Operand) (k : IntKind) (a b : Int) : exBin P .mul ty x y (.int k a) (.int k b) = some (.int k (k.wrap (a * b))) := by
  simp [exBin, ground, eqGuard, binOp, Op.intArith, pureRun_pure]
theorem bin_quo (ty : TypeId) (x y : Operand) (k : IntKind) (a b : Int) (h : b ≠ 0) : exBin P .quo ty x y (.int k a) (.int k b) = some (.int k (k.wrap (a.tdiv b))) := by
  simp [exBin, ground, eqGuard, binOp, Op.intDiv, pureRun_pure, h]
theorem bin_rem (ty : TypeId) (x y : Operand) (k : IntKind) (a b : Int) (h : b ≠ 0) : exBin P .rem ty x y (.int k a) (.int k b) = some (.int k (a.tmod b)) := by
  simp [exBin, ground, eqGuard, binOp, Op.intDiv, pureRun_pure, h]
@[simp] theorem bin_lss (ty : TypeId) (x y : Operand) (k : IntKind) (a b : Int) : exBin P .lss ty x y (.int k a) (.int k b) = some (.bool (decide (a < b))) := by
  simp [exBin, ground, eqGuard, binOp, Op.intCmp, pureRun_pure]
@[simp] theorem bin_leq (ty : TypeId) (x y : Operand) (k : IntKind) (a b : Int) : exBin P .leq ty x y (.int k a) (.int k b) = some (.bool (decide (a ≤ b))) := by
  simp [exBin, ground, eqGuard, binOp, Op.intCmp, pureRun_pure]
@[simp] theorem bin_gtr (ty : TypeId) (x y : Operand) (k : IntKind) (a b : Int) : exBin P .gtr ty x y (.int k a) (.int k b) = some (.bool (decide (b < a))) := by
  simp [exBin, ground, eqGuard, binOp, Op.intCmp, pureRun_pure]
@[simp] theorem bin_geq (ty : TypeId) (x y : Operand) (k : IntKind) (a b : Int) : exBin P .geq ty x y (.int k a) (.int k b) = some (.bool (decide (b ≤ a))) := by
  simp [exBin, ground, eqGuard, binOp, Op.intCmp, pureRun_pure]
@[simp] theorem bin_eql (ty : TypeId) (x y : Operand) (k : IntKind) (a b : Int) : exBin P .eql ty x y (.int k a) (.int k b) = some (.bool (decide (a = b))) := by
  simp [exBin, ground, eqGuard, binOp, Op.intCmp, pureRun_pure]
  rfl
@[simp] theorem bin_neq (ty : TypeId) (x y : Operand) (k : IntKind) (a b : Int) : exBin P .neq ty x y (.int k a) (.int k b) = some (.bool (!decide (a = b))) := by
  simp [exBin, ground, eqGuard, binOp, Op.intCmp, pureRun_pure]
  rfl
theorem bin_eql_gen {ty : TypeId} {x y : Operand} {a b : Value} {r : Bool} (hg : ground a = true) (hh : ground b = true) (h1 : pureRun P (eqGuard .eql ty x y a b) = some ()) (h2 : binOp .eql ty a b = (do pure (.bool (← Op.equal ty a b)))) (h3 : pureRun P (Op.equal ty a b) = some r) :
    exBin P .eql ty x y a b = some (.bool r) := by
  simp only [exBin, hg, hh, Bool.and_self]
  rw [pureRun_bind _ _ _ h1, h2, pureRun_bind _ _ _ h3]
  rfl
theorem bin_neq_gen {ty : TypeId} {x y : Operand} {a b : Value} {r : Bool} (hg : ground a = true) (hh : ground b = true) (h1 : pureRun P (eqGuard .neq ty x y a b) = some ()) (h2 : binOp .neq ty a b = (do pure (.bool (!(← Op.equal ty a b))))) (h3 : pureRun P (Op.equal ty a b) = some r) :
    exBin P .neq ty x y a b = some (.bool !r) := by
  simp only [exBin, hg, hh, Bool.and_self]
  rw [pureRun_bind _ _ _ h1, h2, pureRun_bind _ _ _ h3]
  rfl
theorem equal_bool {ty : TypeId} (h : P.underlying ty = some .bool) (a b : Bool) : pureRun P (Op.equal ty (.bool a) (.bool b)) = some (a == b) := by
  show pureRun P (Op.equalIn (9999 + 1) ty _ _) = _
  unfold Op.equalIn
  rw [pureRun_bind _ _ _ (pureRun_underlying h)]
  rfl
theorem equal_ptr_nil {ty e : TypeId} (h : P.underlying ty = some (.pointer e)) : pureRun P (Op.equal ty (.pointer none) (.pointer none)) = some true := by
  show pureRun P (Op.equalIn (9999 + 1) ty _ _) = _
  unfold Op.equalIn
  rw [pureRun_bind _ _ _ (pureRun_underlying h)]
  rfl
theorem equal_slice_nil {ty e : TypeId} (h : P.underlying ty = some (.slice e)) (l c l' c' : Nat) : pureRun P (Op.equal ty (.slice none l c) (.slice none l' c')) = some true := by
  show pureRun P (Op.equalIn (9999 + 1) ty _ _) = _
  unfold Op.equalIn
  rw [pureRun_bind _ _ _ (pureRun_underlying h)]
  rfl
theorem equal_map_nil {ty e k : TypeId} (h : P.underlying ty = some (.map e k)) : pureRun P (Op.equal ty (.map none) (.map none)) = some true := by
  show pureRun P (Op.equalIn (9999 + 1) ty _ _) = _
  unfold Op.equalIn
  rw [pureRun_bind _ _ _ (pureRun_underlying h)]
  rfl
theorem equal_func_nil {ty : TypeId} {a b c} (h : P.underlying ty = some (.func a b c)) : pureRun P (Op.equal ty .nilFunc .nilFunc) = some true := by
  show pureRun P (Op.equalIn (9999 + 1) ty _ _) = _
  unfold Op.equalIn
  rw [pureRun_bind _ _ _ (pureRun_underlying h)]
  rfl

section
variable {ty : TypeId} {x y : Operand}
theorem bin_eql_bool (h : P.underlying ty = some .bool) (a b : Bool) : exBin P .eql ty x y (.bool a) (.bool b) = some (.bool (a == b)) := bin_eql_gen rfl rfl rfl rfl (equal_bool h a b)
theorem bin_neq_bool (h : P.underlying ty = some .bool) (a b : Bool) : exBin P .neq ty x y (.bool a) (.bool b) = some (.bool (a != b)) := bin_neq_gen rfl rfl rfl rfl (equal_bool h a b)
theorem bin_eql_pnil {e : TypeId} (h : P.underlying ty = some (.pointer e)) : exBin P .eql ty x y (.pointer none) (.pointer none) = some (.bool true) := bin_eql_gen rfl rfl rfl rfl (equal_ptr_nil h)
theorem bin_neq_pnil {e : TypeId} (h : P.underlying ty = some (.pointer e)) : exBin P .neq ty x y (.pointer none) (.pointer none) = some (.bool false) := bin_neq_gen rfl rfl rfl rfl (equal_ptr_nil h)
theorem bin_eql_snil {e : TypeId} (h : P.underlying ty = some (.slice e)) (l c l' c' : Nat) : exBin P .eql ty x y (.slice none l c) (.slice none l' c') = some (.bool true) := bin_eql_gen rfl rfl rfl rfl (equal_slice_nil h l c l' c')
theorem bin_neq_snil {e : TypeId} (h : P.underlying ty = some (.slice e)) (l c l' c' : Nat) : exBin P .neq ty x y (.slice none l c) (.slice none l' c') = some (.bool false) := bin_neq_gen rfl rfl rfl rfl (equal_slice_nil h l c l' c')
theorem bin_eql_mnil {k e : TypeId} (h : P.underlying ty = some (.map k e)) : exBin P .eql ty x y (.map none) (.map none) = some (.bool true) := bin_eql_gen rfl rfl rfl rfl (equal_map_nil h)
theorem bin_neq_mnil {k e : TypeId} (h : P.underlying ty = some (.map k e)) : exBin P .neq ty x y (.map none) (.map none) = some (.bool false) := bin_neq_gen rfl rfl rfl rfl (equal_map_nil h)
theorem bin_eql_fnil {a b c} (h : P.underlying ty = some (.func a b c)) : exBin P .eql ty x y .nilFunc .nilFunc = some (.bool true) := bin_eql_gen rfl rfl rfl rfl (equal_func_nil h)
theorem bin_neq_fnil {a b c} (h : P.underlying ty = some (.func a b c)) : exBin P .neq ty x y .nilFunc .nilFunc = some (.bool false) := bin_neq_gen rfl rfl rfl rfl (equal_func_nil h)
theorem bin_eql_ptr {e : TypeId} (h : P.underlying ty = some (.pointer e)) (a : Addr) : exBin P .eql ty x y (.pointer (some a)) (.pointer none) = some (.bool false) := by simp [exBin, eqNil, h]
theorem bin_neq_ptr {e : TypeId} (h : P.underlying ty = some (.pointer e)) (a : Addr) : exBin P .neq ty x y (.pointer (some a)) (.pointer none) = some (.bool true) := by simp [exBin, eqNil, h]
theorem bin_eql_slice {e : TypeId} (h : P.underlying ty = some (.slice e)) (a : Addr) (l c l' c' : Nat) : exBin P .eql ty x y (.slice (some a) l c) (.slice none l' c') = some (.bool false) := by simp [exBin, eqNil, h]
theorem bin_neq_slice {e : TypeId} (h : P.underlying ty = some (.slice e)) (a : Addr) (l c l' c' : Nat) : exBin P .neq ty x y (.slice (some a) l c) (.slice none l' c') = some (.bool true) := by simp [exBin, eqNil, h]
theorem bin_eql_map {k e : TypeId} (h : P.underlying ty = some (.map k e)) (a : Nat) : exBin P .eql ty x y (.map (some a)) (.map none) = some (.bool false) := by simp [exBin, eqNil, h]
theorem bin_neq_map {k e : TypeId} (h : P.underlying ty = some (.map k e)) (a : Nat) : exBin P .neq ty x y (.map (some a)) (.map none) = some (.bool true) := by simp [exBin, eqNil, h]
theorem bin_eql_iface {ms} (h : P.underlying ty = some (.interface ms)) (a : TypeId) (v : Value) : exBin P .eql ty x y (.iface a v) .nilIface = some (.bool false) := by
  cases hg : ground v with
  | false => simp [exBin, eqNil, h, hg]
  | true =>
    refine bin_eql_gen hg rfl rfl rfl ?_
    show pureRun P (Op.equalIn (9999 + 1) ty _ _) = _
    unfold Op.equalIn
    rw [pureRun_bind _ _ _ (pureRun_underlying h)]
    rfl
theorem bin_neq_iface {ms} (h : P.underlying ty = some (.interface ms)) (a : TypeId) (v : Value) : exBin P .neq ty x y (.iface a v) .nilIface = some (.bool true) := by
  cases hg : ground v with
  | false => simp [exBin, eqNil, h, hg]
  | true =>
    refine bin_neq_gen (r := false) hg rfl rfl rfl ?_
    show pureRun P (Op.equalIn (9999 + 1) ty _ _) = _
    unfold Op.equalIn
    rw [pureRun_bind _ _ _ (pureRun_underlying h)]
    rfl
theorem bin_str (op : BinOp) (a b : ByteArray) (r : Bool) (h : Op.stringOp op a b = pure (.bool r)) (hn : binOp op ty (.string a) (.string b) = Op.stringOp op a b) (hg : pureRun P (eqGuard op ty x y (.string a) (.string b)) = some ()) :
    exBin P op ty x y (.string a) (.string b) = some (.bool r) := by
  simp only [exBin, ground_string, Bool.and_self]
  rw [pureRun_bind _ _ _ hg, hn, h]
  rfl
@[simp] theorem bin_eql_str (a b : ByteArray) : exBin P .eql ty x y (.string a) (.string b) = some (.bool (a.toList == b.toList)) := bin_str .eql a b _ rfl rfl rfl
@[simp] theorem bin_neq_str (a b : ByteArray) : exBin P .neq ty x y (.string a) (.string b) = some (.bool (!(a.toList == b.toList))) := bin_str .neq a b _ rfl rfl rfl
@[simp] theorem bin_lss_str (a b : ByteArray) : exBin P .lss ty x y (.string a) (.string b) = some (.bool (Op.bytesLess a.toList b.toList)) := bin_str .lss a b _ rfl rfl rfl
end
end Go.Vm

namespace Go.Vm
open Go.RowKit
set_option linter.unusedSimpArgs false
set_option linter.unusedVariables false
variable {P : Program} {E : Hooks} {call : CallA} {t : List Value} {H : Heap}

/-! ### The types, as tables -/
inductive Kd where
  | bool | int (k : IntKind) | string | ptr | slice | map | func | iface | struct | array | other
def kindOf : TypeDesc → Kd
  | .bool => .bool | .int k => .int k | .string => .string | .pointer _ => .ptr | .slice _ => .slice | .map _ _ => .map | .func _ _ _ => .func | .interface _ => .iface | .struct _ => .struct | .array _ _ => .array | _ => .other
def kindT (P : Program) (t : TypeId) : Option Kd := (P.underlying t).map kindOf
/-- A field: where it begins, how many cells it has, its type. -/
def fieldT (P : Program) (s f : Nat) : Option (Nat × Nat × TypeId) :=
  match P.underlying s with
  | some (.struct fields) => match fields[f]? with
    | some fl => (sizeT P fl.type).map fun n => (fl.offset, n, fl.type)
    | none => none
  | _ => none
def arrT (P : Program) (t : TypeId) : Option (Nat × TypeId) := match P.underlying t with | some (.array n e) => some (n, e) | _ => none
def mapT (P : Program) (t : TypeId) : Option (TypeId × TypeId) := match P.underlying t with | some (.map k e) => some (k, e) | _ => none
def placesT (P : Program) (t : TypeId) : Option (List (Nat × Nat)) := match P.underlying t with | some (.struct fields) => placesOf P fields.toList | _ => none

theorem kind_under {ty : TypeId} {k : Kd} (h : kindT P ty = some k) : ∃ d, P.underlying ty = some d ∧ kindOf d = k := by
  unfold kindT at h
  cases hu : P.underlying ty with
  | none => rw [hu] at h; cases h
  | some d => rw [hu] at h; simp only [Option.map_some, Option.some.injEq] at h; exact ⟨d, rfl, h⟩
theorem kind_ptr {ty : TypeId} (h : kindT P ty = some .ptr) : ∃ e, P.underlying ty = some (.pointer e) := by
  obtain ⟨d, h1, h2⟩ := kind_under h; cases d <;> simp [kindOf] at h2; exact ⟨_, h1⟩
theorem kind_slice {ty : TypeId} (h : kindT P ty = some .slice) : ∃ e, P.underlying ty = some (.slice e) := by
  obtain ⟨d, h1, h2⟩ := kind_under h; cases d <;> simp [kindOf] at h2; exact ⟨_, h1⟩
theorem kind_map {ty : TypeId} (h : kindT P ty = some .map) : ∃ k e, P.underlying ty = some (.map k e) := by
  obtain ⟨d, h1, h2⟩ := kind_under h; cases d <;> simp [kindOf] at h2; exact ⟨_, _, h1⟩
theorem kind_func {ty : TypeId} (h : kindT P ty = some .func) : ∃ a b c, P.underlying ty = some (.func a b c) := by
  obtain ⟨d, h1, h2⟩ := kind_under h; cases d <;> simp [kindOf] at h2; exact ⟨_, _, _, h1⟩
theorem kind_iface {ty : TypeId} (h : kindT P ty = some .iface) : ∃ ms, P.underlying ty = some (.interface ms) := by
  obtain ⟨d, h1, h2⟩ := kind_under h; cases d <;> simp [kindOf] at h2; exact ⟨_, h1⟩
theorem kind_bool {ty : TypeId} (h : kindT P ty = some .bool) : P.underlying ty = some .bool := by
  obtain ⟨d, h1, h2⟩ := kind_under h; cases d <;> simp [kindOf] at h2; exact h1
theorem kind_string {ty : TypeId} (h : kindT P ty = some .string) : P.underlying ty = some .string := by
  obtain ⟨d, h1, h2⟩ := kind_under h; cases d <;> simp [kindOf] at h2; exact h1
theorem kind_int {ty : TypeId} {k : IntKind} (h : kindT P ty = some (.int k)) : P.underlying ty = some (.int k) := by
  obtain ⟨d, h1, h2⟩ := kind_under h; cases d <;> simp [kindOf] at h2; exact h2 ▸ h1

section
variable {ty : TypeId} {x y : Operand}
@[simp] theorem kbin_eql_bool (h : kindT P ty = some .bool) (a b : Bool) : exBin P .eql ty x y (.bool a) (.bool b) = some (.bool (a == b)) := bin_eql_bool (kind_bool h) a b
@[simp] theorem kbin_neq_bool (h : kindT P ty = some .bool) (a b : Bool) : exBin P .neq ty x y (.bool a) (.bool b) = some (.bool (a != b)) := bin_neq_bool (kind_bool h) a b
@[simp] theorem kbin_eql_pnil (h : kindT P ty = some .ptr) : exBin P .eql ty x y (.pointer none) (.pointer none) = some (.bool true) := let ⟨_, k⟩ := kind_ptr h; bin_eql_pnil k
@[simp] theorem kbin_neq_pnil (h : kindT P ty = some .ptr) : exBin P .neq ty x y (.pointer none) (.pointer none) = some (.bool false) := let ⟨_, k⟩ := kind_ptr h; bin_neq_pnil k
@[simp] theorem kbin_eql_ptr (h : kindT P ty = some .ptr) (a : Addr) : exBin P .eql ty x y (.pointer (some a)) (.pointer none) = some (.bool false) := let ⟨_, k⟩ := kind_ptr h; bin_eql_ptr k a
@[simp] theorem kbin_neq_ptr (h : kindT P ty = some .ptr) (a : Addr) : exBin P .neq ty x y (.pointer (some a)) (.pointer none) = some (.bool true) := let ⟨_, k⟩ := kind_ptr h; bin_neq_ptr k a
@[simp] theorem kbin_eql_snil (h : kindT P ty = some .slice) (l c l' c' : Nat) : exBin P .eql ty x y (.slice none l c) (.slice none l' c') = some (.bool true) := let ⟨_, k⟩ := kind_slice h; bin_eql_snil k l c l' c'
@[simp] theorem kbin_neq_snil (h : kindT P ty = some .slice) (l c l' c' : Nat) : exBin P .neq ty x y (.slice none l c) (.slice none l' c') = some (.bool false) := let ⟨_, k⟩ := kind_slice h; bin_neq_snil k l c l' c'
@[simp] theorem kbin_eql_slice (h : kindT P ty = some .slice) (a : Addr) (l c l' c' : Nat) : exBin P .eql ty x y (.slice (some a) l c) (.slice none l' c') = some (.bool false) := let ⟨_, k⟩ := kind_slice h; bin_eql_slice k a l c l' c'
@[simp] theorem kbin_neq_slice (h : kindT P ty = some .slice) (a : Addr) (l c l' c' : Nat) : exBin P .neq ty x y (.slice (some a) l c) (.slice none l' c') = some (.bool true) := let ⟨_, k⟩ := kind_slice h; bin_neq_slice k a l c l' c'
@[simp] theorem kbin_eql_mnil (h : kindT P ty = some .map) : exBin P .eql ty x y (.map none) (.map none) = some (.bool true) := let ⟨_, _, k⟩ := kind_map h; bin_eql_mnil k
@[simp] theorem kbin_neq_mnil (h : kindT P ty = some .map) : exBin P .neq ty x y (.map none) (.map none) = some (.bool false) := let ⟨_, _, k⟩ := kind_map h; bin_neq_mnil k
@[simp] theorem kbin_eql_map (h : kindT P ty = some .map) (a : Nat) : exBin P .eql ty x y (.map (some a)) (.map none) = some (.bool false) := let ⟨_, _, k⟩ := kind_map h; bin_eql_map k a
@[simp] theorem kbin_neq_map (h : kindT P ty = some .map) (a : Nat) : exBin P .neq ty x y (.map (some a)) (.map none) = some (.bool true) := let ⟨_, _, k⟩ := kind_map h; bin_neq_map k a
@[simp] theorem kbin_eql_fnil (h : kindT P ty = some .func) : exBin P .eql ty x y .nilFunc .nilFunc = some (.bool true) := let ⟨_, _, _, k⟩ := kind_func h; bin_eql_fnil k
@[simp] theorem kbin_neq_fnil (h : kindT P ty = some .func) : exBin P .neq ty x y .nilFunc .nilFunc = some (.bool false) := let ⟨_, _, _, k⟩ := kind_func h; bin_neq_fnil k
@[simp] theorem kbin_eql_iface (h : kindT P ty = some .iface) (a : TypeId) (v : Value) : exBin P .eql ty x y (.iface a v) .nilIface = some (.bool false) := let ⟨_, k⟩ := kind_iface h; bin_eql_iface k a v
@[simp] theorem kbin_neq_iface (h : kindT P ty = some .iface) (a : TypeId) (v : Value) : exBin P .neq ty x y (.iface a v) .nilIface = some (.bool true) := let ⟨_, k⟩ := kind_iface h; bin_neq_iface k a v
end

/-! ### Memory -/
theorem beq_dec (a b : Nat) : Nat.beq a b = decide (a = b) := by
  cases hb : Nat.beq a b with
  | true => simp [Nat.eq_of_beq_eq_true hb]
  | false => simp [Nat.ne_of_beq_eq_false hb]
theorem ble_dec (a b : Nat) : Nat.ble a b = decide (a ≤ b) := by
  cases hb : Nat.ble a b with
  | true => simp [Nat.le_of_ble_eq_true hb]
  | false => simp; exact Nat.lt_of_not_le fun h => by rw [Nat.ble_eq_true_of_le h] at hb; cases hb

def unitF (P : Program) (s f id off : Nat) (o : AObj) : Option Value := match P.underlying s with
  | some (.struct fields) => match fields[f]? with
    | some fl => unitField P o id off fl
    | none => none
  | _ => none
@[simp] theorem field_ptr (s f id off : Nat) : exField P s (.pointer (some ⟨id, off, none⟩)) f H = (fieldT P s f).bind fun p => if p.2.1 = 0 then unitF P s f id off (H.get id) else some (.pointer (some ⟨id, off + p.1, none⟩)) := by
  unfold fieldT exField unitF
  cases hu : P.underlying s with
  | none => rfl
  | some d =>
    cases d <;> first | rfl | skip
    rename_i fields
    simp only []
    cases hf : fields[f]? with
    | none => rfl
    | some fl =>
      simp only []
      cases hs : sizeT P fl.type with
      | none => rfl
      | some n =>
        simp only [Option.map_some, Option.bind_some]
        rw [beq_dec]
        by_cases h : n = 0 <;> simp [h]
@[simp] theorem index_slice (ty id off len cap : Nat) (k : IntKind) (i : Int) : exIndex P ty (.slice (some ⟨id, off, none⟩) len cap) (.int k i) =
    (elemT P ty).bind fun e => (sizeT P e).bind fun n => if 0 ≤ i ∧ i < len then some (.pointer (some ⟨id, off + i.toNat * n, none⟩)) else none := by
  unfold elemT exIndex
  cases hu : P.underlying ty with
  | none => rfl
  | some d =>
    cases d <;> first | rfl | skip
    rename_i e
    simp only [Option.bind_some]
    cases sizeT P e <;> rfl
@[simp] theorem index_arr (ty id off : Nat) (k : IntKind) (i : Int) : exIndex P ty (.pointer (some ⟨id, off, none⟩)) (.int k i) =
    (arrT P ty).bind fun p => (sizeT P p.2).bind fun n => if 0 ≤ i ∧ i < p.1 then some (.pointer (some ⟨id, off + i.toNat * n, none⟩)) else none := by
  unfold arrT exIndex
  cases hu : P.underlying ty with
  | none => rfl
  | some d =>
    cases d <;> first | rfl | skip
    rename_i e
    simp only [Option.bind_some]
    cases sizeT P e <;> rfl
@[simp] theorem part_cell {ty : TypeId} (h : aggT P ty = some false) (cs : List Value) (off : Nat) : partA P ty cs off = cs[off]? := by simp only [partA, h]
@[simp] theorem part_agg {ty : TypeId} (h : aggT P ty = some true) (cs : List Value) (off : Nat) : partA P ty cs off = (sizeT P ty).bind fun n => if off + n ≤ cs.length then some (.agg ⟨(cs.drop off).take n⟩) else none := by
  simp only [partA, h]; cases sizeT P ty <;> rfl
def rowCells : AObj → Option (List Value)
  | .row _ _ _ cs => some cs
  | _ => none
@[simp] theorem rowCells_row (own : Bool) (tl es : Nat) (cs : List Value) : rowCells (.row own tl es cs) = some cs := id rfl
def varCells : AObj → Option (List Value)
  | .row _ _ _ cs => some cs
  | .unit _ => some []
  | _ => none
@[simp] theorem varCells_row (own : Bool) (tl es : Nat) (cs : List Value) : varCells (.row own tl es cs) = some cs := id rfl
@[simp] theorem varCells_unit (e : TypeId) : varCells (.unit e) = some [] := id rfl
@[simp] theorem load_ptr (ty id off : Nat) : exLoad P ty (.pointer (some ⟨id, off, none⟩)) H = (varCells (H.get id)).bind fun cs => partA P ty cs off := by
  unfold exLoad varCells; simp only []; cases H.get id <;> rfl
def storeA (o : AObj) (n off : Nat) (v : Value) : Option AObj :=
  match o with
  | .row true tl es cs => if v.cells.toList.length = n ∧ off + n ≤ cs.length ∧ isTuple v = false then some (.row true tl es (writeAt cs off v.cells.toList)) else none
  | _ => none
@[simp] theorem storeA_row (tl es n off : Nat) (cs : List Value) (v : Value) : storeA (.row true tl es cs) n off v = if v.cells.toList.length = n ∧ off + n ≤ cs.length ∧ isTuple v = false then some (.row true tl es (writeAt cs off v.cells.toList)) else none := id rfl
@[simp] theorem store_ptr (ty id off : Nat) (v : Value) : exStore P ty (.pointer (some ⟨id, off, none⟩)) v H = (sizeT P ty).bind fun n => (storeA (H.get id) n off v).map fun o => H.set id o := by
  unfold exStore storeA
  simp only []
  cases hg : H.get id with
  | row own tl es cs =>
    cases own with
    | false => cases sizeT P ty <;> rfl
    | true =>
      simp only []
      cases sizeT P ty with
      | none => rfl
      | some n =>
        simp only [Option.bind_some]
        rw [beq_dec, ble_dec]
        have e : (decide (v.cells.toList.length = n) && decide (off + n ≤ cs.length) && !isTuple v) = decide (v.cells.toList.length = n ∧ off + n ≤ cs.length ∧ isTuple v = false) := by
          rw [Bool.decide_and, Bool.decide_and, Bool.and_assoc]
          cases isTuple v <;> rfl
        rw [e]
        by_cases hc : v.cells.toList.length = n ∧ off + n ≤ cs.length ∧ isTuple v = false
        · rw [if_pos hc, decide_eq_true hc]; rfl
        · rw [if_neg hc, decide_eq_false hc]; rfl
  | _ => cases sizeT P ty <;> rfl
theorem newVarA_eq (ty : TypeId) (cs : List Value) : newVarA P ty H.n H cs = (.pointer (some ⟨H.n, 0, none⟩), H.push (if sizeT P ty = some 0 then .unit ty else .row true 0 1 cs)) := by
  unfold newVarA varObj
  rw [Heap.pushAt_n]
  congr 2
  split
  · rename_i h; rw [if_pos h]
  · rename_i h; rw [if_neg (fun e => h e)]
@[simp] theorem alloc_eq (ty : TypeId) : exAlloc P ty H = (zeroT P ty).map fun z => (.pointer (some ⟨H.n, 0, none⟩), H.push (if sizeT P ty = some 0 then .unit ty else .row true 0 1 z.cells.toList)) := by
  unfold exAlloc exAllocAt
  simp only [newVarA_eq]
@[simp] theorem newPtr_eq (es : Nat) (cs : List Value) : newPtr H es cs = (.pointer (some ⟨H.n, 0, none⟩), H.push (.row true 0 es cs)) := id rfl
@[simp] theorem box_eq (ty : TypeId) (v : Value) : exBox P ty v H = if isTuple v = true then none else some (.pointer (some ⟨H.n, 0, none⟩), H.push (if sizeT P ty = some 0 then .unit ty else .row true 0 1 v.cells.toList)) := by
  unfold exBox exBoxAt
  rw [newVarA_eq]
  cases isTuple v <;> rfl
@[simp] theorem isTuple_bool (b : Bool) : isTuple (.bool b) = false := id rfl
@[simp] theorem isTuple_int (k : IntKind) (n : Int) : isTuple (.int k n) = false := id rfl
@[simp] theorem isTuple_string (s : ByteArray) : isTuple (.string s) = false := id rfl
@[simp] theorem isTuple_ptr (a : Option Addr) : isTuple (.pointer a) = false := id rfl
@[simp] theorem isTuple_slice (a : Option Addr) (l c : Nat) : isTuple (.slice a l c) = false := id rfl
@[simp] theorem isTuple_map (a : Option Nat) : isTuple (.map a) = false := id rfl
@[simp] theorem isTuple_agg (a : Array Value) : isTuple (.agg a) = false := id rfl
@[simp] theorem isTuple_func (f : Fn) (a c : Array Value) : isTuple (.func f a c) = false := id rfl
@[simp] theorem isTuple_nilFunc : isTuple .nilFunc = false := id rfl
@[simp] theorem isTuple_iface (ty : TypeId) (v : Value) : isTuple (.iface ty v) = false := id rfl
@[simp] theorem isTuple_nilIface : isTuple .nilIface = false := id rfl
@[simp] theorem cells_bool (b : Bool) : (Value.bool b).cells = #[.bool b] := id rfl
@[simp] theorem cells_int (k : IntKind) (n : Int) : (Value.int k n).cells = #[.int k n] := id rfl
@[simp] theorem cells_string (s : ByteArray) : (Value.string s).cells = #[.string s] := id rfl
@[simp] theorem cells_ptr (a : Option Addr) : (Value.pointer a).cells = #[.pointer a] := id rfl
@[simp] theorem cells_slice (a : Option Addr) (l c : Nat) : (Value.slice a l c).cells = #[.slice a l c] := id rfl
@[simp] theorem cells_map (a : Option Nat) : (Value.map a).cells = #[.map a] := id rfl
@[simp] theorem cells_agg (a : Array Value) : (Value.agg a).cells = a := id rfl
@[simp] theorem cells_func (f : Fn) (a c : Array Value) : (Value.func f a c).cells = #[.func f a c] := id rfl
@[simp] theorem cells_nilFunc : (Value.nilFunc).cells = #[.nilFunc] := id rfl
@[simp] theorem cells_iface (ty : TypeId) (v : Value) : (Value.iface ty v).cells = #[.iface ty v] := id rfl
@[simp] theorem cells_nilIface : (Value.nilIface).cells = #[.nilIface] := id rfl
theorem writeAt_one (cs : List Value) (off : Nat) (v : Value) (h : off < cs.length) : writeAt cs off [v] = cs.set off v := by
  unfold writeAt
  rw [List.set_eq_take_append_cons_drop, if_pos h]
  rfl
attribute [simp] writeAt_nil
@[simp] theorem writeAt_zero (c : Value) (cs : List Value) (v : Value) (vs : List Value) : writeAt (c :: cs) 0 (v :: vs) = v :: writeAt cs 0 vs := by
  simp only [writeAt, List.take_zero, List.nil_append, List.cons_append, Nat.zero_add]
  rfl
@[simp] theorem writeAt_succ (c : Value) (cs : List Value) (n : Nat) (vs : List Value) : writeAt (c :: cs) (n + 1) vs = c :: writeAt cs n vs := by
  simp only [writeAt, List.take_succ_cons, List.cons_append]
  rw [show n + 1 + vs.length = (n + vs.length) + 1 by omega]
  rfl
@[simp] theorem len_slice {ty : TypeId} (h : kindT P ty = some .slice) (ts : List TypeId) (a : Option Addr) (l c : Nat) : exLen P (ty :: ts) (.slice a l c) H = some (.int .i64 l) := by
  obtain ⟨e, h⟩ := kind_slice h; simp only [exLen, h]
@[simp] theorem len_str {ty : TypeId} (h : kindT P ty = some .string) (ts : List TypeId) (s : ByteArray) : exLen P (ty :: ts) (.string s) H = some (.int .i64 s.size) := by
  simp only [exLen, kind_string h]
@[simp] theorem len_mnil {ty : TypeId} (h : kindT P ty = some .map) (ts : List TypeId) : exLen P (ty :: ts) (.map none) H = some (.int .i64 0) := by
  obtain ⟨k, e, h⟩ := kind_map h; simp only [exLen, h]
@[simp] theorem res_nil (ts : List Value) : exResults P [] ts H = some [] := id rfl
@[simp] theorem res_tmp (k : Nat) (rs : List ResultVar) (ts : List Value) : exResults P (.tmp k :: rs) ts H = (exResults P rs ts H).map fun l => rd ts k :: l := id rfl
@[simp] theorem res_cell (a : Nat) (ty : TypeId) (rs : List ResultVar) (ts : List Value) : exResults P (.cell a ty :: rs) ts H = (exLoad P ty (rd ts a) H).bind fun v => (exResults P rs ts H).map fun l => v :: l := by
  unfold rd; simp only [exResults]; cases exLoad P ty (ts.getD a undef) H <;> cases exResults P rs ts H <;> rfl
@[simp] theorem guardD_some (d : Nat) (w : Bool) (t : List Value) : guardD (some d) w t = isB w (rd t d) := id rfl
@[simp] theorem guardOf_def (ops : List Oper) (j : Nat) (w : Bool) (t : List Value) : guardOf ops j w t = guardD (dstOf ops j) w t := id rfl
@[simp] theorem dstOf_zero (o : Oper) (os : List Oper) : dstOf (o :: os) 0 = o.dst := id rfl
@[simp] theorem dstOf_succ (o : Oper) (os : List Oper) (j : Nat) : dstOf (o :: os) (j + 1) = dstOf os j := id rfl

/-- A call of a function: its body, at a new frame. -/
theorem call_fn {f : FuncId} {fn : Func} {c : Code} (hf : P.funcs[f]? = some fn) (hb : fn.body = some c) (hn : (fn.name == "runtime.NumGoroutine") = false) (hE : E.has f = false) (args : List Value) (H : Heap) :
    (run P E).call f args H = bodyA P E (run P E) fn.results.toList ((run P E).code c ⟨Fr (Bs fn.ntmps args) [], []⟩ H) := by
  rw [call_body hf hb hn hE]; rfl

attribute [simp] deferOf
attribute [irreducible] Fr Bs rd look

theorem Heap.get_set_same (H : Heap) (i : Nat) (o : AObj) (hi : i < H.n) : (H.set i o).get i = o := by rw [Heap.get_set H i o hi, if_pos rfl]
theorem Heap.get_set_ne (H : Heap) (i : Nat) (o : AObj) (hi : i < H.n) (j : Nat) (hj : j ≠ i) : (H.set i o).get j = H.get j := by rw [Heap.get_set H i o hi, if_neg hj]

end Go.Vm

namespace Go.Vm
open Go.RowKit
set_option linter.unusedSimpArgs false
set_option linter.unusedVariables false
variable {P : Program} {E : Hooks} {call : CallA} {t : List Value} {H : Heap}

@[simp] theorem fillL_nil (place : Nat → Option (Nat × Nat)) (cells : List Value) : fillL place cells [] = some cells := id rfl
@[simp] theorem fillL_cons (place : Nat → Option (Nat × Nat)) (cells : List Value) (i : Nat) (v : Value) (rest : List (Nat × Value)) :
    fillL place cells ((i, v) :: rest) = (place i).bind fun p => if v.cells.toList.length = p.2 ∧ p.1 + p.2 ≤ cells.length ∧ isTuple v = false then fillL place (writeAt cells p.1 v.cells.toList) rest else none := by
  simp only [fillL]
  cases place i with
  | none => rfl
  | some p =>
    obtain ⟨off, size⟩ := p
    simp only [Option.bind_some]
    rw [beq_dec, ble_dec]
    have e : (decide (v.cells.toList.length = size) && decide (off + size ≤ cells.length) && !isTuple v) = decide (v.cells.toList.length = size ∧ off + size ≤ cells.length ∧ isTuple v = false) := by
      rw [Bool.decide_and, Bool.decide_and, Bool.and_assoc]
      cases isTuple v <;> rfl
    rw [e]
    by_cases hc : v.cells.toList.length = size ∧ off + size ≤ cells.length ∧ isTuple v = false
    · rw [if_pos hc, decide_eq_true hc]
    · rw [if_neg hc, decide_eq_false hc]
def buildA (P : Program) (pl : Option (List (Nat × Nat))) (ar : Option (Nat × TypeId)) (z : Value) (parts : List (Nat × Value)) : Option Value :=
  match pl with
  | some pl => (fillL (fun i => pl[i]?) z.cells.toList parts).map fun cs => .agg ⟨cs⟩
  | none => ar.bind fun p => (sizeT P p.2).bind fun n => (fillL (fun i => some (i * n, n)) z.cells.toList parts).map fun cs => .agg ⟨cs⟩
@[simp] theorem build_eq (ty : TypeId) (parts : List (Nat × Value)) : exBuild P ty parts = (zeroT P ty).bind fun z => buildA P (placesT P ty) (arrT P ty) z parts := by
  unfold exBuild buildA placesT arrT
  cases zeroT P ty with
  | none => rfl
  | some z =>
    simp only [Option.bind_some]
    cases hu : P.underlying ty with
    | none => rfl
    | some d =>
      cases d <;> first | rfl | (rename_i fs; simp only []; cases placesOf P fs.toList <;> rfl) | (rename_i n e; simp only [Option.bind_some]; cases sizeT P e <;> rfl)
@[simp] theorem buildA_some (pl : List (Nat × Nat)) (ar : Option (Nat × TypeId)) (z : Value) (parts : List (Nat × Value)) : buildA P (some pl) ar z parts = (fillL (fun i => pl[i]?) z.cells.toList parts).map fun cs => .agg ⟨cs⟩ := id rfl
@[simp] theorem buildA_none (n : Nat) (e : TypeId) (z : Value) (parts : List (Nat × Value)) : buildA P none (some (n, e)) z parts = (sizeT P e).bind fun n => (fillL (fun i => some (i * n, n)) z.cells.toList parts).map fun cs => .agg ⟨cs⟩ := id rfl
@[simp] theorem buildSlice_eq (ty : TypeId) (len : Nat) (parts : List (Nat × Value)) : exBuildSlice P ty len parts H = (elemT P ty).bind fun e => (sizeT P e).bind fun n => (zeroT P e).bind fun z =>
    if len * n ≤ 16777216 ∧ z.cells.toList.length = n ∧ n ≠ 0 then (fillL (fun i => some (i * n, n)) (repCells len z.cells.toList) parts).map fun cs => (.slice (some ⟨H.n, 0, none⟩) len len, H.push (.row true 0 n cs)) else none := by
  unfold exBuildSlice exBuildSliceAt
  simp only [Heap.pushAt_n]
  cases elemT P ty with
  | none => rfl
  | some e =>
    simp only [Option.bind_some]
    cases sizeT P e with
    | none => rfl
    | some n =>
      cases zeroT P e with
      | none => rfl
      | some z =>
        simp only [Option.bind_some]
        rw [beq_dec, ble_dec, beq_dec]
        have e : (decide (len * n ≤ 16777216) && decide (z.cells.toList.length = n) && !decide (n = 0)) = decide (len * n ≤ 16777216 ∧ z.cells.toList.length = n ∧ n ≠ 0) := by
          rw [Bool.decide_and, Bool.decide_and, Bool.and_assoc, decide_not]
        rw [e]
        by_cases hc : len * n ≤ 16777216 ∧ z.cells.toList.length = n ∧ n ≠ 0
        · rw [if_pos hc, decide_eq_true hc]
        · rw [if_neg hc, decide_eq_false hc]
@[simp] theorem makeSlice_eq (ty : TypeId) (k k' : IntKind) (l c : Int) : exMakeSlice P ty (.int k l) (.int k' c) H = (elemT P ty).bind fun e => (sizeT P e).bind fun n => (zeroT P e).bind fun z => (bytesT P e).bind fun b =>
    if 0 ≤ l ∧ l ≤ c ∧ c ≤ 9223372036854775807 ∧ b * c ≤ 281474976710656 ∧ z.cells.toList.length = n ∧ n ≠ 0 then
        some (.slice (some ⟨H.n, 0, none⟩) l.toNat c.toNat, H.push (.row true 0 n (repCells c.toNat z.cells.toList)))
      else none := by
  unfold exMakeSlice
  cases elemT P ty with
  | none => rfl
  | some e => cases h1 : sizeT P e <;> cases h2 : zeroT P e <;> cases h3 : bytesT P e <;> simp [h1, h2, h3]
@[simp] theorem repCells_zero (zs : List Value) : repCells 0 zs = [] := id rfl
theorem repCells_succ (n : Nat) (zs : List Value) : repCells (n + 1) zs = zs ++ repCells n zs := by simp [repCells, List.replicate_succ]
theorem repCells_one (n : Nat) (v : Value) : repCells n [v] = List.replicate n v := by
  induction n with
  | zero => rfl
  | succ n ih => rw [repCells_succ, ih]; rfl
@[simp] theorem fieldA_agg (ty : TypeId) (cs : List Value) (f : Nat) (hs : (fieldT P ty f).isSome = true) : fieldA P ty (some (.agg ⟨cs⟩)) f = (fieldT P ty f).bind fun p => partA P p.2.2 cs p.1 := by
  unfold fieldA
  unfold fieldT at hs ⊢
  cases hu : P.underlying ty with
  | none => rfl
  | some d =>
    rw [hu] at hs
    cases d <;> first | rfl | skip
    rename_i fields
    simp only [] at hs ⊢
    cases hf : fields[f]? with
    | none => rfl
    | some fl =>
      rw [hf] at hs
      simp only [] at hs ⊢
      cases hz : sizeT P fl.type with
      | none => rw [hz] at hs; simp at hs
      | some n => rfl
@[simp] theorem slice_slice (ty id off len cap : Nat) (lo hi mx : Option Value) : exSlice P ty (.slice (some ⟨id, off, none⟩) len cap) lo hi mx H = (elemT P ty).bind fun e => (sizeT P e).bind fun n => cutA id off len cap n lo hi mx H := by
  unfold elemT exSlice
  cases hu : P.underlying ty with
  | none => rfl
  | some d =>
    cases d <;> first | rfl | skip
    rename_i e
    simp only [Option.bind_some]
    cases sizeT P e <;> rfl
@[simp] theorem lenA_slice (a : Option Addr) (l c : Nat) : lenA (.slice a l c) = some l := id rfl
@[simp] theorem lenA_string (s : ByteArray) : lenA (.string s) = some s.size := id rfl
attribute [simp] boundOf
/-- The cells of a slice's first elements. -/
@[simp] theorem cellsOf_slice (id off size n l c : Nat) : cellsOf H size n (.slice (some ⟨id, off, none⟩) l c) = (rowCells (H.get id)).bind fun cs => if off + n * size ≤ cs.length then some ((cs.drop off).take (n * size)) else none := by
  simp only [cellsOf]
  cases H.get id <;> rfl
@[simp] theorem cellsOf_nil (size l c : Nat) : cellsOf H size 0 (.slice none l c) = some [] := id rfl
end Go.Vm

namespace Go.Vm
open Go.RowKit
set_option linter.unusedSimpArgs false
set_option linter.unusedVariables false
variable {P : Program} {E : Hooks} {call : CallA} {t : List Value} {H : Heap}

/-! ### A region whose order is drawn: its plan, and what is to be checked by it -/
abbrev TextR := Option (List (List Value × Value) × List Heap × List Value × Heap)
def textK (x : TextR) (t : List Value) (v : Value) (H : Heap) (w : Bool) : TextR :=
  match x with
  | some (tr, hs, t', H2) => some ((t, v) :: tr, (match w with | true => H :: hs | false => hs), t', H2)
  | none => none
@[simp] theorem textK_true (tr : List (List Value × Value)) (hs : List Heap) (t' : List Value) (H2 : Heap) (v : Value) : textK (some (tr, hs, t', H2)) t v H true = some ((t, v) :: tr, H :: hs, t', H2) := id rfl
@[simp] theorem textK_false (tr : List (List Value × Value)) (hs : List Heap) (t' : List Value) (H2 : Heap) (v : Value) : textK (some (tr, hs, t', H2)) t v H false = some ((t, v) :: tr, hs, t', H2) := id rfl
def textO (r : Option (Out × Heap)) (t : List Value) (dst : Option Tmp) (w : Bool) (k : List Value → Heap → TextR) (_ : Held k) : TextR :=
  match r with
  | some (.val v, H) => textK (k (putA t dst v) H) t v H w
  | _ => none
@[simp] theorem textO_val (v : Value) (dst : Option Tmp) (w : Bool) (k : List Value → Heap → TextR) (hk : Held k) : textO (some (.val v, H)) t dst w k hk = textK (k (putA t dst v) H) t v H w := id rfl
def textC (b : Bool) (x y : TextR) (_ : Held x) (_ : Held y) : TextR := match b with | true => x | false => y
@[simp] theorem textC_true (x y : TextR) (hx : Held x) (hy : Held y) : textC true x y hx hy = x := id rfl
@[simp] theorem textC_false (x y : TextR) (hx : Held x) (hy : Held y) : textC false x y hx hy = y := id rfl
@[simp] theorem exText_nil (ops : List Oper) : exText P call ops [] t H = some ([], [], t, H) := id rfl
theorem textK_eq (x : TextR) (t : List Value) (v : Value) (H : Heap) (o : Op) : (match x with
      | none => none
      | some (tr, hs, t', H2) => match isW P o with
        | true => some ((t, v) :: tr, H :: hs, t', H2)
        | false => some ((t, v) :: tr, hs, t', H2)) = textK x t v H (isW P o) := by
  unfold textK
  cases x with
  | none => rfl
  | some q => obtain ⟨a, b, c, d⟩ := q; simp only []; cases isW P o <;> rfl
@[simp] theorem exText_plain (ops rest : List Oper) (dst : Option Tmp) (op : Op) (ty : TypeId) (pos : String) (after : Array Edge) :
    exText P call ops (⟨dst, op, ty, pos, after, none⟩ :: rest) t H = textO (exOp P call op t H) t dst (isW P op) (exText P call ops rest) (held _) := by
  simp only [exText, exOne, wantA]
  unfold textO
  cases exOp P call op t H with
  | none => rfl
  | some p =>
    obtain ⟨out, H1⟩ := p
    cases out with
    | pan v => rfl
    | val v => exact textK_eq _ _ _ _ _
@[simp] theorem exText_guard (ops rest : List Oper) (dst : Option Tmp) (op : Op) (ty : TypeId) (pos : String) (after : Array Edge) (j : Nat) (w : Bool) :
    exText P call ops (⟨dst, op, ty, pos, after, some (j, w)⟩ :: rest) t H =
      textC (guardOf ops j w t) (textO (exOp P call op t H) t dst (isW P op) (exText P call ops rest) (held _)) (textK (exText P call ops rest (putA t dst undef) H) t undef H (isW P op)) (held _) (held _) := by
  simp only [exText, exOne, guardOf_eq ops ⟨dst, op, ty, pos, after, some (j, w)⟩ j w t rfl]
  cases guardOf ops j w t with
  | false => exact textK_eq _ _ _ _ _
  | true =>
    simp only [textC]
    unfold textO
    cases exOp P call op t H with
    | none => rfl
    | some p =>
      obtain ⟨out, H1⟩ := p
      cases out with
      | pan v => rfl
      | val v => exact textK_eq _ _ _ _ _

def sameV (r : Option (Value × Heap)) (v : Value) : Bool := match r with | some (u, _) => decide (u = v) | none => false
@[simp] theorem sameV_some (u v : Value) : sameV (some (u, H)) v = decide (u = v) := id rfl
def valOf (r : Option (Out × Heap)) : Option (Value × Heap) := match r with | some (.val v, H) => some (v, H) | _ => none
@[simp] theorem valOf_val (v : Value) : valOf (some (.val v, H)) = some (v, H) := id rfl
@[simp] theorem exOne_plain (ops : List Oper) (dst : Option Tmp) (op : Op) (ty : TypeId) (pos : String) (after : Array Edge) : exOne P call ops ⟨dst, op, ty, pos, after, none⟩ t H = valOf (exOp P call op t H) := by
  simp only [exOne, wantA]; unfold valOf
  cases exOp P call op t H with
  | none => rfl
  | some p => obtain ⟨out, H1⟩ := p; cases out <;> rfl
def oneC (b : Bool) (x : Option (Value × Heap)) (H : Heap) (_ : Held x) : Option (Value × Heap) := match b with | true => x | false => some (undef, H)
@[simp] theorem oneC_true (x : Option (Value × Heap)) (hx : Held x) : oneC true x H hx = x := id rfl
@[simp] theorem oneC_false (x : Option (Value × Heap)) (hx : Held x) : oneC false x H hx = some (undef, H) := id rfl
@[simp] theorem exOne_guard (ops : List Oper) (dst : Option Tmp) (op : Op) (ty : TypeId) (pos : String) (after : Array Edge) (j : Nat) (w : Bool) :
    exOne P call ops ⟨dst, op, ty, pos, after, some (j, w)⟩ t H = oneC (guardOf ops j w t) (valOf (exOp P call op t H)) H (held _) := by
  simp only [exOne, guardOf_eq ops ⟨dst, op, ty, pos, after, some (j, w)⟩ j w t rfl]
  cases guardOf ops j w t with
  | false => rfl
  | true =>
    simp only [oneC]; unfold valOf
    cases exOp P call op t H with
    | none => rfl
    | some p => obtain ⟨out, H1⟩ := p; cases out <;> rfl
@[simp] theorem stableIn_nil (ops : List Oper) (o : Oper) (v : Value) : stableIn P call ops o t v [] = true := id rfl
@[simp] theorem stableIn_cons (ops : List Oper) (o : Oper) (v : Value) (Hs : List Heap) : stableIn P call ops o t v (H :: Hs) = (sameV (exOne P call ops o t H) v && stableIn P call ops o t v Hs) := by
  simp only [stableIn]; unfold sameV
  cases exOne P call ops o t H with
  | none => rfl
  | some p =>
    obtain ⟨u, H1⟩ := p
    simp only []
    cases hd : decV u v with
    | isTrue h => simp [h]
    | isFalse h => simp [h]
@[simp] theorem stableAll_nil (ops : List Oper) (Ms : List Heap) (os : List Oper) (tr : List (List Value × Value)) : stableAll P call ops Ms [] os tr = true := by simp [stableAll]
@[simp] theorem stableAll_none (ops : List Oper) (Ms : List Heap) (pl : List (Option (Nat × Nat))) (o : Oper) (os : List Oper) (q : List Value × Value) (tr : List (List Value × Value)) :
    stableAll P call ops Ms (none :: pl) (o :: os) (q :: tr) = stableAll P call ops Ms pl os tr := id rfl
@[simp] theorem stableAll_some (ops : List Oper) (Ms : List Heap) (lo k : Nat) (pl : List (Option (Nat × Nat))) (o : Oper) (os : List Oper) (v : Value) (tr : List (List Value × Value)) :
    stableAll P call ops Ms (some (lo, k) :: pl) (o :: os) ((t, v) :: tr) = (stableIn P call ops o t v ((Ms.drop lo).take (k + 1)) && stableAll P call ops Ms pl os tr) := id rfl
def drawF (P : Program) (call : CallA) (ops : List Oper) (pl : List (Option (Nat × Nat))) (H : Heap) (ds : List (FuncId × List Value)) (x : TextR) : ResA :=
  match x with
  | some (tr, hs, t', H2) => match stableAll P call ops (H :: hs) pl ops tr with
    | true => some (.normal, ⟨t', ds⟩, H2)
    | false => none
  | none => none
@[simp] theorem drawF_some (ops : List Oper) (pl : List (Option (Nat × Nat))) (ds : List (FuncId × List Value)) (tr : List (List Value × Value)) (hs : List Heap) (t' : List Value) (H2 : Heap) :
    drawF P call ops pl H ds (some (tr, hs, t', H2)) = if stableAll P call ops (H :: hs) pl ops tr = true then some (.normal, ⟨t', ds⟩, H2) else none := by
  unfold drawF; simp only []; cases stableAll P call ops (H :: hs) pl ops tr <;> rfl
theorem code_plan {ops : Array Oper} {pl : List (Option (Nat × Nat))} (hp : planOf P ops.toList = some pl) (id : Nat) (s : St) (H : Heap) :
    (run P E).code (.region id ops true) s H = drawF P (run P E).call ops.toList pl H s.ds (exText P (run P E).call ops.toList ops.toList s.t H) := by
  rw [run_code]
  show exDraw P (run P E).call ops.toList s H = _
  unfold exDraw drawF
  rw [hp]
  simp only []
  cases exText P (run P E).call ops.toList ops.toList s.t H with
  | none => rfl
  | some q => obtain ⟨a, b, c, d⟩ := q; rfl
attribute [simp] isW

/-- The region of a number, in a piece of code. -/
def regsOf : Code → List (Nat × Array Oper)
  | .region id ops _ => [(id, ops)]
  | .seq a b => regsOf a ++ regsOf b
  | .cond _ a b => regsOf a ++ regsOf b
  | .block _ c => regsOf c
  | .scope c => regsOf c
  | .loop c => regsOf c
  | _ => []
def regN (fn : Func) (i : Nat) : Array Oper := match fn.body with
  | some c => match (regsOf c).find? fun p => Nat.beq p.1 i with
    | some p => p.2
    | none => #[]
  | none => #[]
end Go.Vm

namespace Go.Vm
/-- The drawn regions of a piece of code, in their order. -/
def drawsOf : Code → List (Array Oper)
  | .region _ ops true => [ops]
  | .seq a b => drawsOf a ++ drawsOf b
  | .cond _ a b => drawsOf a ++ drawsOf b
  | .block _ c => drawsOf c
  | .scope c => drawsOf c
  | .loop c => drawsOf c
  | _ => []
def drawN (fn : Func) (i : Nat) : List Oper := match fn.body with
  | some c => ((drawsOf c).getD i #[]).toList
  | none => []
end Go.Vm

namespace Go.Vm
open Go.RowKit
set_option linter.unusedSimpArgs false
set_option linter.unusedVariables false
variable {P : Program} {E : Hooks} {call : CallA} {t : List Value} {H : Heap}
/-! ### A region in which what makes or turns objects comes up in any order -/
abbrev FreeR := Option (List (Nat × List Nat × List Nat) × List Value × Heap)
def addT (i : Nat) (w : List Nat × List Nat) (x : FreeR) : FreeR := match w with
  | ([], []) => x
  | w => match x with
    | some (l, t, H) => some ((i, w) :: l, t, H)
    | none => none
def freeT (P : Program) (call : CallA) (ops : List Oper) : List Oper → List Value → Nat → Heap → Nat → FreeR
  | [], t, _, H, _ => some ([], t, H)
  | o :: rest, t, r, H, i => match exOneR P call ops o t r H with
    | none => none
    | some (v, H') => addT i (touchR P o.op t r) (freeT P call ops rest (putA t o.dst v) (r + needR o.op) H' (i + 1))
def touchL : Nat → List StepR → List (Nat × List Nat × List Nat)
  | _, [] => []
  | i, s :: st => match s.W, s.R with
    | [], [] => touchL (i + 1) st
    | W, R => (i, W, R) :: touchL (i + 1) st
def clashP (a b : List Nat × List Nat) : Bool := a.1.any (fun x => b.1.elem x || b.2.elem x) || b.1.any (fun x => a.2.elem x)
def apartP (ms : List Nat) : List (Nat × List Nat × List Nat) → Bool
  | [] => true
  | a :: as => as.all (fun b => (ms.getD b.1 0).testBit a.1 || !clashP b.2 a.2) && apartP ms as
theorem freeT_some {ops : List Oper} : ∀ {rest : List Oper} {t : List Value} {r : Nat} {H : Heap} {i : Nat} {l : List (Nat × List Nat × List Nat)} {t' : List Value} {H2 : Heap}, freeT P call ops rest t r H i = some (l, t', H2) →
    ∃ st, exFreeT P call ops rest t r H = some (st, t', H2) ∧ l = touchL i st
  | [], t, r, H, i, l, t', H2, h => by
    simp only [freeT, Option.some.injEq, Prod.mk.injEq] at h
    obtain ⟨rfl, rfl, rfl⟩ := h
    exact ⟨[], rfl, rfl⟩
  | o :: rest, t, r, H, i, l, t', H2, h => by
    simp only [freeT] at h
    simp only [exFreeT]
    cases ho : exOneR P call ops o t r H with
    | none => rw [ho] at h; cases h
    | some p =>
      obtain ⟨v, H1⟩ := p
      rw [ho] at h
      simp only [] at h
      cases hw : touchR P o.op t r with
      | mk W R =>
        rw [hw] at h
        cases hx : freeT P call ops rest (putA t o.dst v) (r + needR o.op) H1 (i + 1) with
        | none => rw [hx] at h; unfold addT at h; split at h <;> cases h
        | some q =>
          obtain ⟨l1, t1, H3⟩ := q
          obtain ⟨st, h1, rfl⟩ := freeT_some hx
          rw [hx] at h
          simp only [h1]
          unfold addT at h
          split at h
          · rename_i hz
            simp only [Prod.mk.injEq] at hz
            obtain ⟨rfl, rfl⟩ := hz
            simp only [Option.some.injEq, Prod.mk.injEq] at h
            obtain ⟨rfl, rfl, rfl⟩ := h
            exact ⟨_, rfl, rfl⟩
          · rename_i hz
            simp only [Option.some.injEq, Prod.mk.injEq] at h
            obtain ⟨rfl, rfl, rfl⟩ := h
            refine ⟨_, rfl, ?_⟩
            cases W with
            | nil => cases R with
              | nil => exact (hz rfl).elim
              | cons a b => rfl
            | cons a b => rfl
theorem touchL_ge : ∀ {st : List StepR} {i : Nat} {x : Nat × List Nat × List Nat}, x ∈ touchL i st → i ≤ x.1
  | [], i, x, h => by simp [touchL] at h
  | s :: st, i, x, h => by
    unfold touchL at h
    split at h
    · have := touchL_ge h; omega
    · rcases List.mem_cons.1 h with rfl | h
      · exact Nat.le_refl _
      · have := touchL_ge h; omega
theorem touchL_mem : ∀ {st : List StepR} {i k : Nat} {s : StepR}, st[k]? = some s → (s.W ≠ [] ∨ s.R ≠ []) → (i + k, s.W, s.R) ∈ touchL i st
  | [], i, k, s, h, _ => by simp at h
  | s0 :: st, i, 0, s, h, hn => by
    simp only [List.getElem?_cons_zero, Option.some.injEq] at h
    subst h
    unfold touchL
    split
    · rename_i h1 h2; rcases hn with hn | hn <;> contradiction
    · exact List.mem_cons_self
  | s0 :: st, i, k + 1, s, h, hn => by
    simp only [List.getElem?_cons_succ] at h
    have := touchL_mem (i := i + 1) h hn
    rw [show i + 1 + k = i + (k + 1) by omega] at this
    unfold touchL
    split
    · exact this
    · exact List.mem_cons_of_mem _ this
theorem apartP_pair {ms : List Nat} : ∀ {st : List StepR} {i : Nat}, apartP ms (touchL i st) = true → ∀ {j k : Nat} {a b : StepR}, j < k → st[j]? = some a → st[k]? = some b → (ms.getD (i + k) 0).testBit (i + j) || !clash b a
  | [], i, _, j, k, a, b, _, h, _ => by simp at h
  | s :: st, i, h, 0, k + 1, a, b, _, h1, h2 => by
    simp only [List.getElem?_cons_zero, Option.some.injEq] at h1
    subst h1
    simp only [List.getElem?_cons_succ] at h2
    by_cases ha : s.W ≠ [] ∨ s.R ≠ []
    · by_cases hb : b.W ≠ [] ∨ b.R ≠ []
      · have hm := touchL_mem (i := i + 1) h2 hb
        have he : touchL i (s :: st) = (i, s.W, s.R) :: touchL (i + 1) st := by
          conv => lhs; unfold touchL
          split
          · rename_i e1 e2
            rcases ha with ha | ha <;> contradiction
          · rfl
        rw [he, apartP, Bool.and_eq_true, List.all_eq_true] at h
        have := h.1 _ hm
        rw [show i + 1 + k = i + (k + 1) by omega] at this
        exact this
      · have e1 : b.W = [] := by by_cases c : b.W = [] <;> simp_all
        have e2 : b.R = [] := by by_cases c : b.R = [] <;> simp_all
        simp [clash, e1, e2]
    · have e1 : s.W = [] := by by_cases c : s.W = [] <;> simp_all
      have e2 : s.R = [] := by by_cases c : s.R = [] <;> simp_all
      simp [clash, e1, e2]
  | s :: st, i, h, j + 1, k + 1, a, b, hlt, h1, h2 => by
    simp only [List.getElem?_cons_succ] at h1 h2
    have h' : apartP ms (touchL (i + 1) st) = true := by
      unfold touchL at h
      split at h
      · exact h
      · rw [apartP, Bool.and_eq_true] at h; exact h.2
    have := apartP_pair h' (show j < k by omega) h1 h2
    rw [show i + 1 + k = i + (k + 1) by omega, show i + 1 + j = i + (j + 1) by omega] at this
    exact this
theorem apartP_all {ms : List Nat} {st : List StepR} (h : apartP ms (touchL 0 st) = true) : apartAll ms st = true := by
  unfold apartAll
  rw [List.all_eq_true]
  intro i hi
  unfold apartAt
  rw [List.all_eq_true]
  intro j hj
  rw [List.mem_range] at hi hj
  have e1 : st[i]? = some st[i] := List.getElem?_eq_getElem hi
  have e2 : st[j]? = some st[j] := List.getElem?_eq_getElem (by omega)
  have := apartP_pair h hj e2 e1
  simp only [Nat.zero_add] at this
  rw [e1, e2]
  exact this
def freeF (ms : List Nat) (ds : List (FuncId × List Value)) (x : FreeR) : ResA := match x with
  | some (l, t', H2) => match apartP ms l with
    | true => some (.normal, ⟨t', ds⟩, H2)
    | false => none
  | none => none
@[simp] theorem freeF_some (ms : List Nat) (ds : List (FuncId × List Value)) (l : List (Nat × List Nat × List Nat)) (t' : List Value) (H2 : Heap) :
    freeF ms ds (some (l, t', H2)) = if apartP ms l = true then some (.normal, ⟨t', ds⟩, H2) else none := by
  unfold freeF; simp only []; cases apartP ms l <;> rfl
theorem code_free {ops : Array Oper} (hp : planOf P ops.toList = none) (hla : lateAt ops.toList = none) {ms : List Nat} (hm : preOf ops.toList = ms) (ho : freeOK ops.toList ms = true) {k : Nat} (hk : needAll ops.toList = k) {id : Nat} {s : St} {H : Heap} {r : ExA × St × Heap}
    (h : freeF ms s.ds (freeT P (run P E).call ops.toList ops.toList s.t H.n (H.room k) 0) = some r) : (run P E).code (.region id ops true) s H = some r := by
  subst hm
  rw [run_code]
  show exDraw P (run P E).call ops.toList s H = _
  unfold exDraw
  rw [hp]
  simp only []
  unfold exNoPlan
  rw [hla]
  simp only []
  unfold exFree
  rw [ho, hk]
  simp only []
  cases hx : freeT P (run P E).call ops.toList ops.toList s.t H.n (H.room k) 0 with
  | none => rw [hx] at h; cases h
  | some q =>
    obtain ⟨l, t', H2⟩ := q
    obtain ⟨st, h1, rfl⟩ := freeT_some hx
    rw [hx, freeF_some] at h
    split at h
    · rename_i ha
      rw [h1]
      simp only [apartP_all ha]
      exact h
    · cases h

/-! #### Its operations, one by one -/
def freeO (r : Option (Out × Heap)) (t : List Value) (dst : Option Tmp) (w : List Nat × List Nat) (i : Nat) (k : List Value → Heap → FreeR) (_ : Held k) : FreeR :=
  match r with
  | some (.val v, H) => addT i w (k (putA t dst v) H)
  | _ => none
@[simp] theorem freeO_val (v : Value) (dst : Option Tmp) (w : List Nat × List Nat) (i : Nat) (k : List Value → Heap → FreeR) (hk : Held k) : freeO (some (.val v, H)) t dst w i k hk = addT i w (k (putA t dst v) H) := id rfl
@[simp] theorem addT_nil (i : Nat) (x : FreeR) : addT i ([], []) x = x := id rfl
@[simp] theorem addT_W (i a : Nat) (as R : List Nat) (l : List (Nat × List Nat × List Nat)) : addT i (a :: as, R) (some (l, t, H)) = some ((i, a :: as, R) :: l, t, H) := id rfl
@[simp] theorem addT_R (i a : Nat) (as : List Nat) (l : List (Nat × List Nat × List Nat)) : addT i ([], a :: as) (some (l, t, H)) = some ((i, [], a :: as) :: l, t, H) := id rfl
@[simp] theorem freeT_nil (ops : List Oper) (r i : Nat) : freeT P call ops [] t r H i = some ([], t, H) := id rfl
@[simp] theorem freeT_plain (ops rest : List Oper) (dst : Option Tmp) (op : Op) (ty : TypeId) (pos : String) (after : Array Edge) (r i : Nat) :
    freeT P call ops (⟨dst, op, ty, pos, after, none⟩ :: rest) t r H i = freeO (exOpR P call op t r H) t dst (touchR P op t r) i (fun t H => freeT P call ops rest t (r + needR op) H (i + 1)) (held _) := by
  simp only [freeT, exOneR, wantA]
  unfold freeO
  cases exOpR P call op t r H with
  | none => rfl
  | some p =>
    obtain ⟨out, H1⟩ := p
    cases out <;> rfl
def freeC (b : Bool) (x y : FreeR) (_ : Held x) (_ : Held y) : FreeR := match b with | true => x | false => y
@[simp] theorem freeC_true (x y : FreeR) (hx : Held x) (hy : Held y) : freeC true x y hx hy = x := id rfl
@[simp] theorem freeC_false (x y : FreeR) (hx : Held x) (hy : Held y) : freeC false x y hx hy = y := id rfl
@[simp] theorem freeT_guard (ops rest : List Oper) (dst : Option Tmp) (op : Op) (ty : TypeId) (pos : String) (after : Array Edge) (j : Nat) (w : Bool) (r i : Nat) :
    freeT P call ops (⟨dst, op, ty, pos, after, some (j, w)⟩ :: rest) t r H i =
      freeC (guardOf ops j w t) (freeO (exOpR P call op t r H) t dst (touchR P op t r) i (fun t H => freeT P call ops rest t (r + needR op) H (i + 1)) (held _))
        (addT i (touchR P op t r) (freeT P call ops rest (putA t dst undef) (r + needR op) H (i + 1))) (held _) (held _) := by
  simp only [freeT, exOneR, guardOf_eq ops ⟨dst, op, ty, pos, after, some (j, w)⟩ j w t rfl]
  cases guardOf ops j w t with
  | false => rfl
  | true =>
    simp only [freeC]
    unfold freeO
    cases exOpR P call op t r H with
    | none => rfl
    | some p =>
      obtain ⟨out, H1⟩ := p
      cases out <;> rfl

section
variable {r : Nat}
@[simp] theorem opR_move (x : Operand) : exOpR P call (.move x) t r H = exOp P noCall (.move x) t H := id rfl
@[simp] theorem opR_assign (x : Operand) : exOpR P call (.assign x) t r H = exOp P noCall (.assign x) t H := id rfl
@[simp] theorem opR_pick (x y z : Operand) : exOpR P call (.pick x y z) t r H = exOp P noCall (.pick x y z) t H := id rfl
@[simp] theorem opR_build (ty : TypeId) (ps : Array (Nat × Operand)) : exOpR P call (.build ty ps) t r H = exOp P noCall (.build ty ps) t H := id rfl
@[simp] theorem opR_load (ty : TypeId) (x : Operand) : exOpR P call (.load ty x) t r H = exOp P noCall (.load ty x) t H := id rfl
@[simp] theorem opR_store (ty : TypeId) (x y : Operand) : exOpR P call (.store ty x y) t r H = exOp P noCall (.store ty x y) t H := id rfl
@[simp] theorem opR_nilCheck (x : Operand) : exOpR P call (.nilCheck x) t r H = exOp P noCall (.nilCheck x) t H := id rfl
@[simp] theorem opR_binOp (o : BinOp) (ty : TypeId) (x y : Operand) (yt : TypeId) : exOpR P call (.binOp o ty x y yt) t r H = exOp P noCall (.binOp o ty x y yt) t H := id rfl
@[simp] theorem opR_unOp (o : UnOp) (ty : TypeId) (x : Operand) : exOpR P call (.unOp o ty x) t r H = exOp P noCall (.unOp o ty x) t H := id rfl
@[simp] theorem opR_makeInterface (ty : TypeId) (x : Operand) : exOpR P call (.makeInterface ty x) t r H = exOp P noCall (.makeInterface ty x) t H := id rfl
@[simp] theorem opR_fieldAddr (s : TypeId) (x : Operand) (f : Nat) : exOpR P call (.fieldAddr s x f) t r H = exOp P noCall (.fieldAddr s x f) t H := id rfl
@[simp] theorem opR_field (s : TypeId) (x : Operand) (f : Nat) : exOpR P call (.field s x f) t r H = exOp P noCall (.field s x f) t H := id rfl
@[simp] theorem opR_indexAddr (s : TypeId) (x y : Operand) : exOpR P call (.indexAddr s x y) t r H = exOp P noCall (.indexAddr s x y) t H := id rfl
@[simp] theorem opR_index (s : TypeId) (x y : Operand) : exOpR P call (.index s x y) t r H = exOp P noCall (.index s x y) t H := id rfl
@[simp] theorem opR_lookup (s : TypeId) (x y : Operand) (ok : Bool) : exOpR P call (.lookup s x y ok) t r H = exOp P noCall (.lookup s x y ok) t H := id rfl
@[simp] theorem opR_extract (x : Operand) (i : Nat) : exOpR P call (.extract x i) t r H = exOp P noCall (.extract x i) t H := id rfl
@[simp] theorem opR_len (args : Array Operand) (ts : Array TypeId) : exOpR P call (.call ⟨.builtin .len, args, ts⟩) t r H = exOp P noCall (.call ⟨.builtin .len, args, ts⟩) t H := id rfl
@[simp] theorem opR_cap (args : Array Operand) (ts : Array TypeId) : exOpR P call (.call ⟨.builtin .cap, args, ts⟩) t r H = exOp P noCall (.call ⟨.builtin .cap, args, ts⟩) t H := id rfl
@[simp] theorem opR_call (f : Operand) (args : Array Operand) (ts : Array TypeId) : exOpR P call (.call ⟨.value f, args, ts⟩) t r H = exOp P (isoCall call) (.call ⟨.value f, args, ts⟩) t H := id rfl
@[simp] theorem opR_alloc (ty : TypeId) : exOpR P call (.alloc ty) t r H = val2 (exAllocAt P ty r H) := id rfl
@[simp] theorem opR_box (ty : TypeId) (x : Operand) : exOpR P call (.box ty x) t r H = val2 ((evA t x).bind fun v => exBoxAt P ty v r H) := by
  simp only [exOpR]; cases evA t x <;> rfl
@[simp] theorem opR_buildSlice (ty : TypeId) (n : Nat) (ps : Array (Nat × Operand)) : exOpR P call (.buildSlice ty n ps) t r H = val2 ((evP t ps.toList).bind fun l => exBuildSliceAt P ty n l r H) := by
  simp only [exOpR]; cases evP t ps.toList <;> rfl
@[simp] theorem opR_makeMap (ty : TypeId) : exOpR P call (.makeMap ty none) t r H = some (.val (.map (some r)), H.pushAt r (.map [])) := id rfl
def appR (P : Program) (ts : List TypeId) (r : Nat) (H : Heap) (l : Option (List Value)) : Option (Out × Heap) := match l with
  | some [s, x] => val2 (exAppendAt P ts s x r H)
  | _ => none
@[simp] theorem appR_some (ts : List TypeId) (s x : Value) : appR P ts r H (some [s, x]) = val2 (exAppendAt P ts s x r H) := id rfl
@[simp] theorem opR_append (args : Array Operand) (ts : Array TypeId) : exOpR P call (.call ⟨.builtin .append, args, ts⟩) t r H = appR P ts.toList r H (evL t args.toList) := by
  simp only [exOpR]; unfold appR; rfl
theorem opR_convert {s d : TypeId} (x : Operand) (h : (isBS P s d || !isW P (.convert s d x)) = true) : exOpR P call (.convert s d x) t r H = exOp P noCall (.convert s d x) t H := by
  simp only [exOpR]; rw [h]
@[simp] theorem opR_convBS {s d : TypeId} (x : Operand) (h1 : kindT P s = some .slice) (h2 : kindT P d = some .string) : exOpR P call (.convert s d x) t r H = exOp P noCall (.convert s d x) t H := by
  obtain ⟨e, k1⟩ := kind_slice h1
  have k2 := kind_string h2
  exact opR_convert x (by simp [isBS, k1, k2])
@[simp] theorem opR_convI {s d : TypeId} (x : Operand) {k k' : IntKind} (h1 : kindT P s = some (.int k)) (h2 : kindT P d = some (.int k')) : exOpR P call (.convert s d x) t r H = exOp P noCall (.convert s d x) t H := by
  have k1 := kind_int h1
  have k2 := kind_int h2
  exact opR_convert x (by simp [isW, k1, k2])
theorem iso_eq {f : FuncId} {args : List Value} {v : Value} {H1 : Heap} (h : call f args Heap.empty = some (.val v, H1)) (hg : groundL args = true) (hv : ground v = true) (H : Heap) : isoCall call f args H = some (.val v, H) := isoCall_eq hg hv h H
end
/-! #### A region with one variable that is made at any time -/
def lateF (P : Program) (call : CallA) (A : List Oper) (pl : List (Option (Nat × Nat))) (q : LateQ) (z : Value) (H : Heap) (ds : List (FuncId × List Value)) (x : TextR) : ResA :=
  match x with
  | some (tr, hs, t', H1) => match stableAll P call A (H.push .dead :: hs) pl A tr with
    | true => exLast P q z H.n ds t' H1
    | false => none
  | none => none
@[simp] theorem lateF_some (A : List Oper) (pl : List (Option (Nat × Nat))) (q : LateQ) (z : Value) (ds : List (FuncId × List Value)) (tr : List (List Value × Value)) (hs : List Heap) (t' : List Value) (H1 : Heap) :
    lateF P call A pl q z H ds (some (tr, hs, t', H1)) = if stableAll P call A (H.push .dead :: hs) pl A tr = true then exLast P q z H.n ds t' H1 else none := by
  unfold lateF; simp only []; cases stableAll P call A (H.push .dead :: hs) pl A tr <;> rfl
/-- The store at the end. -/
def lastO (x : Option (Out × Heap)) (t : List Value) (ds : List (FuncId × List Value)) : ResA := match x with
  | some (.val _, H2) => some (.normal, ⟨t, ds⟩, H2)
  | _ => none
@[simp] theorem lastO_val (v : Value) (ds : List (FuncId × List Value)) : lastO (some (.val v, H)) t ds = some (.normal, ⟨t, ds⟩, H) := id rfl
theorem exLast_go {q : LateQ} {z : Value} {r : Nat} {ds : List (FuncId × List Value)} {t' : List Value} {H1 : Heap} (h1 : r < H1.n) (h2 : H1.get r = .dead) : exLast P q z r ds t' H1 =
    lastO (exOp P noCall q.os.op (putA t' (some q.d) (.pointer (some ⟨r, 0, none⟩))) (H1.set r (varObj P q.ty z.cells.toList))) (putA t' (some q.d) (.pointer (some ⟨r, 0, none⟩))) ds := by
  unfold exLast lastO
  rw [h2, show Nat.blt r H1.n = true from Nat.ble_eq_true_of_le h1]
  generalize exOp P noCall q.os.op _ _ = x
  cases x with
  | none => rfl
  | some p => obtain ⟨o, H2⟩ := p; cases o <;> rfl
theorem code_late {ops : Array Oper} (hp : planOf P ops.toList = none) {q : LateQ} (hla : lateAt ops.toList = some q) {pl : List (Option (Nat × Nat))} (hpl : planOf P (lateA ops.toList) = some pl) {z : Value} (hz : zeroT P q.ty = some z) (id : Nat) (s : St) (H : Heap) :
    (run P E).code (.region id ops true) s H = lateF P (run P E).call (lateA ops.toList) pl q z H s.ds (exText P (run P E).call (lateA ops.toList) (lateA ops.toList) s.t (H.push .dead)) := by
  rw [run_code]
  show exDraw P (run P E).call ops.toList s H = _
  unfold exDraw
  rw [hp]
  simp only []
  unfold exNoPlan
  rw [hla]
  simp only []
  unfold exLate2 lateF
  rw [hz, hpl]
  simp only []
  cases exText P (run P E).call (lateA ops.toList) (lateA ops.toList) s.t (H.push .dead) with
  | none => rfl
  | some q => obtain ⟨a, b, c, d⟩ := q; rfl
attribute [simp] touchR readR idsO idsV mapIds needR clashP apartP Heap.room
end Go.Vm
