/- What is defined and proved: a run of the abstract machine whose slots stand in a tree, for runs of closed calls; no theorem of the program. -/
import Derived.Test.YtbjcfdopkaekjaaVmN
namespace Go.Vm
set_option linter.unusedSimpArgs false
set_option linter.unusedVariables false

/-! ### Slots in a tree -/
inductive TT where
  | leaf
  | node (v : Value) (l r : TT)
def TT.get : TT → Nat → Value
  | .leaf, _ => undef
  | .node v l r, i =>
    match Nat.beq i 0 with
    | true => v
    | false => match Nat.beq (i % 2) 1 with
      | true => l.get (i / 2)
      | false => r.get (i / 2 - 1)
def TT.has : TT → Nat → Bool
  | .leaf, _ => false
  | .node _ l r, i =>
    match Nat.beq i 0 with
    | true => true
    | false => match Nat.beq (i % 2) 1 with
      | true => l.has (i / 2)
      | false => r.has (i / 2 - 1)
def TT.set : TT → Nat → Value → TT
  | .leaf, _, _ => .leaf
  | .node p l r, i, v =>
    match Nat.beq i 0 with
    | true => .node v l r
    | false => match Nat.beq (i % 2) 1 with
      | true => .node p (TT.set l (i / 2) v) r
      | false => .node p l (TT.set r (i / 2 - 1) v)
def TT.mk : Nat → TT
  | 0 => .leaf
  | d + 1 => .node undef (TT.mk d) (TT.mk d)

theorem beq_cases (a b : Nat) : (Nat.beq a b = true ∧ a = b) ∨ (Nat.beq a b = false ∧ a ≠ b) := by
  cases h : Nat.beq a b with
  | true => exact .inl ⟨rfl, Nat.eq_of_beq_eq_true h⟩
  | false => exact .inr ⟨rfl, Nat.ne_of_beq_eq_false h⟩
theorem TT.has_set (v : Value) : ∀ (T : TT) (i j : Nat), (T.set i v).has j = T.has j
  | .leaf, i, j => rfl
  | .node p l r, i, j => by
    simp only [TT.set]
    rcases beq_cases i 0 with ⟨h, _⟩ | ⟨h, _⟩
    · rw [h]; rfl
    · rw [h]
      simp only []
      rcases beq_cases (i % 2) 1 with ⟨h2, _⟩ | ⟨h2, _⟩
      · rw [h2]; simp only [TT.has]; rw [TT.has_set v l]
      · rw [h2]; simp only [TT.has]; rw [TT.has_set v r]
theorem TT.get_set (v : Value) : ∀ (T : TT) (i j : Nat), T.has i = true → (T.set i v).get j = if j = i then v else T.get j
  | .leaf, i, j, h => by cases h
  | .node p l r, i, j, h => by
    simp only [TT.has] at h
    simp only [TT.set]
    rcases beq_cases i 0 with ⟨h1, rfl⟩ | ⟨h1, hi⟩
    · rw [h1]
      simp only [TT.get]
      rcases beq_cases j 0 with ⟨h2, rfl⟩ | ⟨h2, hj⟩
      · rw [h2, if_pos rfl]
      · rw [h2, if_neg hj]
    · rw [h1] at h ⊢
      simp only [] at h ⊢
      rcases beq_cases (i % 2) 1 with ⟨h2, hp⟩ | ⟨h2, hp⟩
      · rw [h2] at h ⊢
        simp only [TT.get]
        rcases beq_cases j 0 with ⟨h3, rfl⟩ | ⟨h3, hj⟩
        · rw [h3, if_neg (fun e => hi e.symm)]
        · rw [h3]
          simp only []
          rcases beq_cases (j % 2) 1 with ⟨h4, hq⟩ | ⟨h4, hq⟩
          · rw [h4]
            simp only []
            rw [TT.get_set v l _ _ h]
            by_cases e : j = i
            · rw [if_pos (by rw [e]), if_pos e]
            · rw [if_neg (by omega), if_neg e]
          · rw [h4, if_neg (fun e => hq (by rw [e]; exact hp))]
      · rw [h2] at h ⊢
        simp only [TT.get]
        rcases beq_cases j 0 with ⟨h3, rfl⟩ | ⟨h3, hj⟩
        · rw [h3, if_neg (fun e => hi e.symm)]
        · rw [h3]
          simp only []
          rcases beq_cases (j % 2) 1 with ⟨h4, hq⟩ | ⟨h4, hq⟩
          · rw [h4, if_neg (fun e => hp (by rw [← e]; exact hq))]
          · rw [h4]
            simp only []
            rw [TT.get_set v r _ _ h]
            by_cases e : j = i
            · rw [if_pos (by rw [e]), if_pos e]
            · rw [if_neg (by omega), if_neg e]
theorem TT.get_mk : ∀ (d i : Nat), (TT.mk d).get i = undef
  | 0, _ => rfl
  | d + 1, i => by
    simp only [TT.mk, TT.get]
    rcases beq_cases i 0 with ⟨h, _⟩ | ⟨h, _⟩
    · rw [h]
    · rw [h]
      simp only []
      rcases beq_cases (i % 2) 1 with ⟨h2, _⟩ | ⟨h2, _⟩ <;> (rw [h2]; simp only []; exact TT.get_mk d _)
theorem TT.has_mk : ∀ (d i : Nat), i + 1 < 2 ^ d → (TT.mk d).has i = true
  | 0, i, h => by simp at h
  | d + 1, i, h => by
    simp only [TT.mk, TT.has]
    have h2 : 2 ^ (d + 1) = 2 * 2 ^ d := by rw [Nat.pow_succ]; omega
    rcases beq_cases i 0 with ⟨h1, _⟩ | ⟨h1, hi⟩
    · rw [h1]
    · rw [h1]
      simp only []
      rcases beq_cases (i % 2) 1 with ⟨h3, _⟩ | ⟨h3, _⟩ <;> (rw [h3]; simp only []; exact TT.has_mk d _ (by omega))

/-- A frame with its slots in a tree. -/
structure StT where
  n : Nat
  T : TT
  ds : List (FuncId × List Value)
structure RelT (T : TT) (n : Nat) (t : List Value) : Prop where
  len : t.length = n
  get : ∀ k, T.get k = t.getD k undef
  has : ∀ k, k < n → T.has k = true

def putT (n : Nat) (T : TT) (dst : Option Tmp) (v : Value) : TT :=
  match dst with
  | some d => match Nat.blt d n with
    | true => T.set d v
    | false => T
  | none => T
theorem RelT.put {T : TT} {n : Nat} {t : List Value} (h : RelT T n t) (dst : Option Tmp) (v : Value) : RelT (putT n T dst v) n (putA t dst v) := by
  cases dst with
  | none => exact h
  | some d =>
    simp only [putT, putA]
    rcases Nat.lt_or_ge d n with hd | hd
    · rw [blt_true hd]
      refine ⟨by simp [h.len], fun k => ?_, fun k hk => ?_⟩
      · simp only []
        rw [TT.get_set v T d k (h.has d hd), List.getD_eq_getElem?_getD, List.getElem?_set]
        by_cases e : k = d
        · rw [if_pos e, if_pos e.symm, if_pos (by rw [h.len]; exact hd)]; rfl
        · rw [if_neg e, if_neg (fun x => e x.symm), h.get k, List.getD_eq_getElem?_getD]
      · simp only []
        rw [TT.has_set]; exact h.has k hk
    · rw [blt_false hd, List.set_eq_of_length_le (by rw [h.len]; exact hd)]
      exact h

def setAll : List Value → Nat → List Value → List Value
  | t, _, [] => t
  | t, i, v :: vs => setAll (putA t (some i) v) (i + 1) vs
def fillT (n : Nat) : TT → Nat → List Value → TT
  | T, _, [] => T
  | T, i, v :: vs => fillT n (putT n T (some i) v) (i + 1) vs
theorem fillT_rel {n : Nat} : ∀ (vs : List Value) (T : TT) (t : List Value) (i : Nat), RelT T n t → RelT (fillT n T i vs) n (setAll t i vs)
  | [], _, _, _, h => h
  | v :: vs, T, t, i, h => fillT_rel vs _ _ (i + 1) (h.put (some i) v)
theorem setAll_eq : ∀ (vs t : List Value) (i : Nat), i + vs.length ≤ t.length → setAll t i vs = t.take i ++ (vs ++ t.drop (i + vs.length))
  | [], t, i, h => by simp [setAll]
  | v :: vs, t, i, h => by
    simp only [setAll, putA]
    simp only [List.length_cons] at h
    rw [setAll_eq vs (t.set i v) (i + 1) (by simp; omega)]
    have e1 : (t.set i v).take (i + 1) = t.take i ++ [v] := by
      rw [List.take_add_one, List.take_set_of_le (Nat.le_refl i), List.getElem?_set_self (by omega)]
      rfl
    have e2 : (t.set i v).drop (i + 1 + vs.length) = t.drop (i + 1 + vs.length) := List.drop_set_of_lt (by omega)
    rw [e1, e2, List.append_assoc, List.length_cons, show i + 1 + vs.length = i + (vs.length + 1) by omega]
    rfl
def depthOf (n : Nat) : Nat := Nat.log2 (n + 1) + 1
theorem depthOf_ok {n i : Nat} (h : i < n) : i + 1 < 2 ^ depthOf n := by
  unfold depthOf
  have := @Nat.lt_log2_self (n + 1)
  omega
def slotsT (n : Nat) (args : List Value) : TT := fillT n (TT.mk (depthOf n)) 0 args
theorem slotsT_rel (fn : Func) (args : List Value) (h : args.length ≤ fn.ntmps) : RelT (slotsT fn.ntmps args) fn.ntmps (slotsAt fn args) := by
  have base : RelT (TT.mk (depthOf fn.ntmps)) fn.ntmps (List.replicate fn.ntmps undef) := ⟨by simp, fun k => by
    rw [TT.get_mk, List.getD_eq_getElem?_getD, List.getElem?_replicate]
    split <;> rfl, fun k hk => TT.has_mk _ _ (depthOf_ok hk)⟩
  have := fillT_rel args _ _ 0 base
  rw [setAll_eq args _ 0 (by simpa using h)] at this
  simpa [slotsAt, slotsT] using this

/-! ### Operands -/
def evT (T : TT) : Operand → Option Value
  | .tmp t => some (T.get t)
  | .const v => match ground v with | true => some v | false => none
  | .global _ => none
  | .func f => some (.func (.func f) #[] #[])
theorem RelT.ev {T : TT} {n : Nat} {t : List Value} (h : RelT T n t) : evT T = evA t := by
  funext x
  cases x with
  | tmp k => simp only [evT, evA]; rw [h.get]
  | _ => rfl
def evLG (ev : Operand → Option Value) : List Operand → Option (List Value)
  | [] => some []
  | x :: xs => match ev x, evLG ev xs with
    | some v, some vs => some (v :: vs)
    | _, _ => none
def evOG (ev : Operand → Option Value) : Option Operand → Option (Option Value)
  | none => some none
  | some x => (ev x).map some
def evPG (ev : Operand → Option Value) : List (Nat × Operand) → Option (List (Nat × Value))
  | [] => some []
  | (i, x) :: xs => match ev x, evPG ev xs with
    | some v, some vs => some ((i, v) :: vs)
    | _, _ => none
theorem evLG_eq (t : List Value) : ∀ xs, evLG (evA t) xs = evL t xs
  | [] => rfl
  | x :: xs => by simp only [evLG, evL, evLG_eq t xs]; rfl
theorem evOG_eq (t : List Value) : ∀ x, evOG (evA t) x = evO t x
  | none => rfl
  | some x => rfl
theorem evPG_eq (t : List Value) : ∀ xs, evPG (evA t) xs = evP t xs
  | [] => rfl
  | (i, x) :: xs => by simp only [evPG, evP, evPG_eq t xs]; rfl

def exCallG (P : Program) (call : CallA) (c : Call) (ev : Operand → Option Value) (H : Heap) : Option (Out × Heap) :=
  match evLG ev c.args.toList with
  | none => none
  | some args => match c.callee with
    | .builtin b => exBuiltin P b c.argTypes.toList args H
    | .value f => match ev f with
      | some (.func (.func g) first captured) => call g (first.toList ++ args ++ captured.toList) H
      | _ => none
    | .invoke r m => match ev r with
      | some (.iface t v) => match exMethod P t m with
        | some f => call f (v :: args) H
        | none => none
      | _ => none

def exOpG (P : Program) (call : CallA) (o : Op) (ev : Operand → Option Value) (H : Heap) : Option (Out × Heap) :=
  match o with
  | .move x | .assign x => val1 (ev x) H
  | .pick c a b => match ev c with
    | some (.bool t) => val1 (match t with | true => ev a | false => ev b) H
    | _ => none
  | .alloc t => val2 (exAlloc P t H)
  | .box ty x => match ev x with | some v => val2 (exBox P ty v H) | none => none
  | .build t ps => match evPG ev ps.toList with | some l => val1 (exBuild P t l) H | none => none
  | .buildSlice t n ps => match evPG ev ps.toList with | some l => val2 (exBuildSlice P t n l H) | none => none
  | .load t a => match ev a with | some v => val1 (exLoad P t v H) H | none => none
  | .store t a x => match ev a, ev x with | some v, some u => skip1 (exStore P t v u H) | _, _ => none
  | .nilCheck x => match ev x with
    | some (.pointer (some a)) => some (.val (.pointer (some a)), H)
    | some (.func (.func f) a c) => some (.val (.func (.func f) a c), H)
    | _ => none
  | .binOp op t x y _ => match ev x, ev y with | some a, some b => val1 (exBin P op t x y a b) H | _, _ => none
  | .unOp op _ x => match ev x with
    | some a => match ground a with | true => val1 (ifGround (pureRun P (Op.unary op a))) H | false => none
    | none => none
  | .convert s d x => match ev x with | some a => val2 (exConvert P s d a H) | none => none
  | .makeInterface t x => match ev x with
    | some v => match P.underlying t with
      | some (.interface _) | none => none
      | some _ => some (.val (.iface t v), H)
    | none => none
  | .makeFunc (.func f) first captured => match evLG ev first.toList, evLG ev captured.toList with
    | some a, some c => some (.val (.func (.func f) ⟨a⟩ ⟨c⟩), H)
    | _, _ => none
  | .makeMap _ none => some (.val (.map (some H.n)), H.push (.map []))
  | .makeSlice t l c => match ev l, ev c with | some a, some b => val2 (exMakeSlice P t a b H) | _, _ => none
  | .slice t x lo hi mx => match ev x, evOG ev lo, evOG ev hi, evOG ev mx with
    | some v, some l, some h, some m => val2 (exSlice P t v l h m H)
    | _, _, _, _ => none
  | .fieldAddr s x f => match ev x with | some v => val1 (exField P s v f H) H | none => none
  | .field t x f => match ev x, P.underlying t with
    | some (.agg cs), some (.struct fields) => match fields[f]? with
      | some fl => val1 (partA P fl.type cs.toList fl.offset) H
      | none => none
    | _, _ => none
  | .indexAddr t x i => match ev x, ev i with | some v, some k => val1 (exIndex P t v k) H | _, _ => none
  | .index t x i => match ev x, ev i with
    | some (.agg cs), some (.int _ i) => match P.underlying t with
      | some (.array len e) => match sizeT P e with
        | some n => if 0 ≤ i ∧ i < len then val1 (partA P e cs.toList (i.toNat * n)) H else none
        | none => none
      | _ => none
    | some (.string s), some (.int k i) => val1 (ifGround (pureRun P (Instr.index t (.string s) (.int k i)))) H
    | _, _ => none
  | .lookup t x i ok => match ev x, ev i with | some v, some k => val1 (exLookup P t v k ok H) H | _, _ => none
  | .mapUpdate t m k x | .insert t m k x => match ev m, ev k, ev x with | some v, some q, some u => skip1 (exMapPut P t v q u H) | _, _, _ => none
  | .extract t i => match ev t with
    | some (.tuple vs) => val1 vs.toList[i]? H
    | _ => none
  | .call c => exCallG P call c ev H
  | .panic x => match ev x with
    | some (.iface t v) => some (.pan (.iface t v), H)
    | _ => none
  | _ => none

theorem exCallG_eq (P : Program) (call : CallA) (c : Call) (t : List Value) (H : Heap) : exCallG P call c (evA t) H = exCallOp P call c t H := by
  unfold exCallG exCallOp
  rw [evLG_eq]
  rfl
theorem exOpG_eq (P : Program) (call : CallA) (o : Op) (t : List Value) (H : Heap) : exOpG P call o (evA t) H = exOp P call o t H := by
  cases o <;> simp only [exOpG, exOp, evLG_eq, evPG_eq, evOG_eq, exCallG_eq] <;> rfl
def exOpRG (P : Program) (o : Op) (ev : Operand → Option Value) (r : Nat) (H : Heap) : Option (Out × Heap) :=
  match o with
  | .alloc ty => val2 (exAllocAt P ty r H)
  | .box ty x => match ev x with | some v => val2 (exBoxAt P ty v r H) | none => none
  | .buildSlice ty n ps => match evPG ev ps.toList with | some l => val2 (exBuildSliceAt P ty n l r H) | none => none
  | .makeMap _ none => some (.val (.map (some r)), H.pushAt r (.map []))
  | .store ty a x => exOpG P noCall (.store ty a x) ev H
  | .call ⟨.builtin .append, args, ts⟩ => match evLG ev args.toList with
    | some [s, x] => val2 (exAppendAt P ts.toList s x r H)
    | _ => none
  | .convert sr ds x => match isBS P sr ds || !isW P (.convert sr ds x) with | true => exOpG P noCall (.convert sr ds x) ev H | false => none
  | o => match isW P o with | true => none | false => exOpG P noCall o ev H
theorem noIso (P : Program) (f : Operand) (args : Array Operand) (ts : Array TypeId) (t : List Value) (H : Heap) : exOp P (isoCall noCall) (.call ⟨.value f, args, ts⟩) t H = none := by
  have : ∀ g l, isoCall noCall g l H = none := fun g l => by
    unfold isoCall noCall
    cases groundL l <;> rfl
  simp only [exOp, exCallOp]
  cases evL t args.toList with
  | none => rfl
  | some as =>
    simp only []
    split
    · exact this _ _
    · rfl
theorem exOpRG_eq (P : Program) (o : Op) (t : List Value) (r : Nat) (H : Heap) : exOpRG P o (evA t) r H = exOpR P noCall o t r H := by
  cases o <;> (try simp only [exOpRG, exOpR, evLG_eq, evPG_eq, exOpG_eq])
  case makeMap ty r0 => cases r0 <;> (try simp only [exOpG_eq]) <;> rfl
  case call c =>
    obtain ⟨callee, args, ts⟩ := c
    cases callee with
    | builtin b => cases b <;> (try simp only [exOpG_eq, evLG_eq]) <;> rfl
    | value f => exact (noIso P f args ts t H).symm
    | _ => (try simp only [exOpG_eq]) <;> rfl
  all_goals rfl
def idsOG (ev : Operand → Option Value) (x : Operand) : List Nat := match ev x with | some v => idsV v | none => []
/-- The objects that an operation looks at which turns none. -/
def readRG (P : Program) (o : Op) (ev : Operand → Option Value) : List Nat :=
  match o with
  | .load _ a => idsOG ev a
  | .lookup _ x _ _ => idsOG ev x
  | .convert _ _ x => idsOG ev x
  | .fieldAddr s x f => match P.underlying s with
    | some (.struct fields) => match fields[f]? with
      | some fl => match sizeT P fl.type with
        | some 0 => idsOG ev x
        | _ => []
      | none => []
    | _ => []
  | .call ⟨.builtin .len, args, _⟩ => args.toList.flatMap fun x => match ev x with | some v => mapIds v | none => []
  | .call ⟨.builtin .cap, args, _⟩ => args.toList.flatMap (idsOG ev)
  | _ => []
/-- The objects that an operation may turn; those that it looks at besides. -/
def touchRG (P : Program) (o : Op) (ev : Operand → Option Value) (r : Nat) : List Nat × List Nat :=
  match o with
  | .alloc _ | .box _ _ | .buildSlice _ _ _ | .makeMap _ _ => ([r], [])
  | .store _ a _ => (idsOG ev a, [])
  | .call ⟨.builtin .append, args, _⟩ => (match args.toList with
    | s :: _ => r :: idsOG ev s
    | _ => [], args.toList.flatMap (idsOG ev))
  | o => ([], readRG P o ev)
theorem idsOG_eq (t : List Value) (x : Operand) : idsOG (evA t) x = idsO t x := rfl
theorem touchRG_eq (P : Program) (o : Op) (t : List Value) (r : Nat) : touchRG P o (evA t) r = touchR P o t r := rfl
end Go.Vm

namespace Go.Vm
set_option linter.unusedSimpArgs false
set_option linter.unusedVariables false
variable {P : Program} {E : Hooks}

/-! ### The run with slots in a tree -/
abbrev ResT := Option (ExA × StT × Heap)
def wantT (ops : List Oper) (o : Oper) (T : TT) : Bool :=
  match o.guard with
  | none => true
  | some (j, w) => match (ops[j]?).bind (·.dst) with
    | some d => match T.get d with
      | .bool b => b == w
      | _ => false
    | none => false
theorem RelT.want {T : TT} {n : Nat} {t : List Value} (h : RelT T n t) (ops : List Oper) (o : Oper) : wantT ops o T = wantA ops o t := by
  unfold wantT wantA
  cases o.guard with
  | none => rfl
  | some g =>
    obtain ⟨j, w⟩ := g
    simp only []
    cases (ops[j]?).bind (·.dst) with
    | none => rfl
    | some d =>
      simp only []
      rw [h.get d, List.getD_eq_getElem?_getD]
      cases t[d]? with
      | none => rfl
      | some v => cases v <;> rfl
def exDeferT (c : Call) (T : TT) : Option (FuncId × List Value) :=
  match c.callee, evLG (evT T) c.args.toList with
  | .value f, some args => match evT T f with
    | some (.func (.func g) first captured) => some (g, first.toList ++ args ++ captured.toList)
    | _ => none
  | _, _ => none
theorem RelT.defer {T : TT} {n : Nat} {t : List Value} (h : RelT T n t) (c : Call) : exDeferT c T = exDefer c t := by
  unfold exDeferT exDefer
  rw [h.ev, evLG_eq]
  rfl
def exListT (P : Program) (call : CallA) (ops : List Oper) : List Oper → StT → Heap → ResT
  | [], s, H => some (.normal, s, H)
  | o :: rest, s, H =>
    match wantT ops o s.T with
    | false => exListT P call ops rest ⟨s.n, putT s.n s.T o.dst undef, s.ds⟩ H
    | true => match deferOf o.op with
      | some c => match exDeferT c s.T with
        | some d => exListT P call ops rest ⟨s.n, putT s.n s.T o.dst undef, d :: s.ds⟩ H
        | none => none
      | none => match exOpG P call o.op (evT s.T) H with
        | none => none
        | some (.pan v, H') => some (.pan v, s, H')
        | some (.val v, H') => exListT P call ops rest ⟨s.n, putT s.n s.T o.dst v, s.ds⟩ H'

def exResultsT (P : Program) : List ResultVar → TT → Heap → Option (List Value)
  | [], _, _ => some []
  | .tmp t :: rs, T, H => (exResultsT P rs T H).map fun l => T.get t :: l
  | .cell a ty :: rs, T, H => match exLoad P ty (T.get a) H, exResultsT P rs T H with
    | some v, some l => some (v :: l)
    | _, _ => none
theorem RelT.results {T : TT} {n : Nat} {t : List Value} (h : RelT T n t) (H : Heap) : ∀ rs, exResultsT P rs T H = exResults P rs t H
  | [] => rfl
  | .tmp k :: rs => by simp only [exResultsT, exResults, h.results H rs, h.get]
  | .cell a ty :: rs => by simp only [exResultsT, exResults, h.results H rs, h.get]; rfl

structure RunsT where
  call : CallA
  code : Code → StT → Heap → ResT
  scope : Code → Code → StT → Heap → ResT

/-- The one run gives no more than the other. -/
structure LeT (A : RunsT) (B : Runs) : Prop where
  call : ∀ {f args H r}, A.call f args H = some r → B.call f args H = some r
  code : ∀ {c s H e s' H'}, A.code c s H = some (e, s', H') → ∀ {t}, RelT s.T s.n t → ∃ t', B.code c ⟨t, s.ds⟩ H = some (e, ⟨t', s'.ds⟩, H') ∧ RelT s'.T s'.n t'
  scope : ∀ {b c s H e s' H'}, A.scope b c s H = some (e, s', H') → ∀ {t}, RelT s.T s.n t → ∃ t', B.scope b c ⟨t, s.ds⟩ H = some (e, ⟨t', s'.ds⟩, H') ∧ RelT s'.T s'.n t'

/-- Of calls alone. -/
def onlyCall (c : CallA) : Runs := ⟨c, fun _ _ _ => none, fun _ _ _ _ => none⟩
theorem sup_only {c d : CallA} (h : ∀ {f args H r}, c f args H = some r → d f args H = some r) : Sup (onlyCall c) fun _ => onlyCall d :=
  ⟨fun hc => .of fun _ => h hc, fun hc => (by cases hc), fun hc => (by cases hc)⟩
theorem Ev.get {p : Prop} (h : Ev fun _ => p) : p := let ⟨m, hm⟩ := h; hm m (Nat.le_refl m)
section
variable {c d : CallA} (hcd : ∀ {f args H r}, c f args H = some r → d f args H = some r)
include hcd
theorem le_op {o : Op} {t : List Value} {H : Heap} {r : Out × Heap} (h : exOp P c o t H = some r) : exOp P d o t H = some r := Ev.get (sup_op (P := P) (A := onlyCall c) (B := fun _ => onlyCall d) (sup_only hcd) h)

theorem list_T {ops : List Oper} : ∀ {rest : List Oper} {s : StT} {H : Heap} {e : ExA} {s' : StT} {H' : Heap}, exListT P c ops rest s H = some (e, s', H') → ∀ {t}, RelT s.T s.n t →
    ∃ t', exList P d ops rest ⟨t, s.ds⟩ H = some (e, ⟨t', s'.ds⟩, H') ∧ RelT s'.T s'.n t'
  | [], s, H, e, s', H', h, t, hr => by
    simp only [exListT, Option.some.injEq, Prod.mk.injEq] at h
    obtain ⟨rfl, rfl, rfl⟩ := h
    exact ⟨t, rfl, hr⟩
  | o :: rest, s, H, e, s', H', h, t, hr => by
    simp only [exListT] at h
    simp only [exList]
    rw [hr.want] at h
    cases hw : wantA ops o t with
    | false =>
      rw [hw] at h
      exact list_T h (hr.put o.dst undef)
    | true =>
      rw [hw] at h
      simp only [] at h ⊢
      cases hd : deferOf o.op with
      | some cc =>
        rw [hd] at h
        simp only [] at h ⊢
        rw [hr.defer] at h
        cases hx : exDefer cc t with
        | none => rw [hx] at h; cases h
        | some q => rw [hx] at h; exact list_T h (hr.put o.dst undef)
      | none =>
        rw [hd] at h
        simp only [] at h ⊢
        rw [hr.ev, exOpG_eq] at h
        cases ho : exOp P c o.op t H with
        | none => rw [ho] at h; cases h
        | some p =>
          obtain ⟨out, H1⟩ := p
          rw [ho] at h
          rw [le_op (P := P) hcd ho]
          cases out with
          | pan v =>
            simp only [Option.some.injEq, Prod.mk.injEq] at h
            obtain ⟨rfl, rfl, rfl⟩ := h
            exact ⟨t, rfl, hr⟩
          | val v => exact list_T h (hr.put o.dst v)
end

/-! #### Drawn regions -/
def exOneT (P : Program) (call : CallA) (ops : List Oper) (o : Oper) (T : TT) (H : Heap) : Option (Value × Heap) :=
  match wantT ops o T with
  | false => some (undef, H)
  | true => match exOpG P call o.op (evT T) H with
    | some (.val v, H') => some (v, H')
    | _ => none
theorem RelT.one {T : TT} {n : Nat} {t : List Value} (h : RelT T n t) (call : CallA) (ops : List Oper) (o : Oper) (H : Heap) : exOneT P call ops o T H = exOne P call ops o t H := by
  unfold exOneT exOne
  rw [h.want, h.ev, exOpG_eq]
  rfl
/-- A region all of whose orders read alike. -/
def exTextT (P : Program) (call : CallA) (ops : List Oper) (n : Nat) : List Oper → TT → Heap → Option (TT × Heap)
  | [], T, H => some (T, H)
  | o :: rest, T, H => match exOneT P call ops o T H with
    | none => none
    | some (v, H') => exTextT P call ops n rest (putT n T o.dst v) H'
theorem text_T {call : CallA} {ops : List Oper} {n : Nat} : ∀ {rest : List Oper} {T : TT} {H : Heap} {T' : TT} {H' : Heap}, exTextT P call ops n rest T H = some (T', H') → ∀ {t}, RelT T n t →
    ∃ tr hs t', exText P call ops rest t H = some (tr, hs, t', H') ∧ RelT T' n t'
  | [], T, H, T', H', h, t, hr => by
    simp only [exTextT, Option.some.injEq, Prod.mk.injEq] at h
    obtain ⟨rfl, rfl⟩ := h
    exact ⟨[], [], t, rfl, hr⟩
  | o :: rest, T, H, T', H', h, t, hr => by
    simp only [exTextT] at h
    simp only [exText]
    rw [hr.one] at h
    cases ho : exOne P call ops o t H with
    | none => rw [ho] at h; cases h
    | some p =>
      obtain ⟨v, H1⟩ := p
      rw [ho] at h
      obtain ⟨tr, hs, t', h1, h2⟩ := text_T h (hr.put o.dst v)
      simp only [h1]
      cases isW P o.op with
      | true => exact ⟨_, _, t', rfl, h2⟩
      | false => exact ⟨_, _, t', rfl, h2⟩
/-- The same with all that is needed to look at it again. -/
def exTextS (P : Program) (call : CallA) (ops : List Oper) (n : Nat) : List Oper → TT → Heap → Option (List (TT × Value) × List Heap × TT × Heap)
  | [], T, H => some ([], [], T, H)
  | o :: rest, T, H => match exOneT P call ops o T H with
    | none => none
    | some (v, H') => match exTextS P call ops n rest (putT n T o.dst v) H' with
      | none => none
      | some (tr, hs, T', H2) => match isW P o.op with
        | true => some ((T, v) :: tr, H' :: hs, T', H2)
        | false => some ((T, v) :: tr, hs, T', H2)
def stableInT (P : Program) (call : CallA) (ops : List Oper) (o : Oper) (T : TT) (v : Value) : List Heap → Bool
  | [] => true
  | H :: Hs => match exOneT P call ops o T H with
    | some (u, _) => match decV u v with
      | isTrue _ => stableInT P call ops o T v Hs
      | isFalse _ => false
    | none => false
def stableAllT (P : Program) (call : CallA) (ops : List Oper) (Ms : List Heap) : List (Option (Nat × Nat)) → List Oper → List (TT × Value) → Bool
  | some (lo, k) :: pl, o :: os, (T, v) :: tr => stableInT P call ops o T v ((Ms.drop lo).take (k + 1)) && stableAllT P call ops Ms pl os tr
  | none :: pl, _ :: os, _ :: tr => stableAllT P call ops Ms pl os tr
  | _, _, _ => true
inductive TrRel (n : Nat) : List (TT × Value) → List (List Value × Value) → Prop
  | nil : TrRel n [] []
  | cons {T : TT} {t : List Value} (h : RelT T n t) (v : Value) {a : List (TT × Value)} {b : List (List Value × Value)} (hs : TrRel n a b) : TrRel n ((T, v) :: a) ((t, v) :: b)
theorem textS_T {call : CallA} {ops : List Oper} {n : Nat} : ∀ {rest : List Oper} {T : TT} {H : Heap} {trT : List (TT × Value)} {hs : List Heap} {T' : TT} {H' : Heap}, exTextS P call ops n rest T H = some (trT, hs, T', H') → ∀ {t}, RelT T n t →
    ∃ tr t', exText P call ops rest t H = some (tr, hs, t', H') ∧ RelT T' n t' ∧ TrRel n trT tr
  | [], T, H, trT, hs, T', H', h, t, hr => by
    simp only [exTextS, Option.some.injEq, Prod.mk.injEq] at h
    obtain ⟨rfl, rfl, rfl, rfl⟩ := h
    exact ⟨[], t, rfl, hr, .nil⟩
  | o :: rest, T, H, trT, hs, T', H', h, t, hr => by
    simp only [exTextS] at h
    simp only [exText]
    rw [hr.one] at h
    cases ho : exOne P call ops o t H with
    | none => rw [ho] at h; cases h
    | some p =>
      obtain ⟨v, H1⟩ := p
      rw [ho] at h
      simp only [] at h
      cases hx : exTextS P call ops n rest (putT n T o.dst v) H1 with
      | none => rw [hx] at h; cases h
      | some q =>
        obtain ⟨tr1, hs1, T1, H2⟩ := q
        rw [hx] at h
        obtain ⟨tr, t', h1, h2, h3⟩ := textS_T hx (hr.put o.dst v)
        simp only [h1]
        cases hw : isW P o.op with
        | true =>
          simp only [hw, Option.some.injEq, Prod.mk.injEq] at h ⊢
          obtain ⟨rfl, rfl, rfl, rfl⟩ := h
          exact ⟨_, t', ⟨rfl, rfl, rfl, rfl⟩, h2, .cons hr v h3⟩
        | false =>
          simp only [hw, Option.some.injEq, Prod.mk.injEq] at h ⊢
          obtain ⟨rfl, rfl, rfl, rfl⟩ := h
          exact ⟨_, t', ⟨rfl, rfl, rfl, rfl⟩, h2, .cons hr v h3⟩
theorem stableIn_T {call : CallA} {ops : List Oper} {o : Oper} {n : Nat} {T : TT} {t : List Value} (hr : RelT T n t) {v : Value} : ∀ (Hs : List Heap), stableInT P call ops o T v Hs = stableIn P call ops o t v Hs
  | [] => rfl
  | H :: Hs => by simp only [stableInT, stableIn, hr.one, stableIn_T hr Hs]; rfl
theorem stableAll_T {call : CallA} {ops : List Oper} {n : Nat} {Ms : List Heap} : ∀ (pl : List (Option (Nat × Nat))) (os : List Oper) {a : List (TT × Value)} {b : List (List Value × Value)}, TrRel n a b → stableAllT P call ops Ms pl os a = stableAll P call ops Ms pl os b
  | [], os, _, _, h => by cases h <;> simp [stableAllT, stableAll]
  | some (x, y) :: pl, [], _, _, h => by cases h <;> simp [stableAllT, stableAll]
  | none :: pl, [], _, _, h => by cases h <;> simp [stableAllT, stableAll]
  | some (x, y) :: pl, o :: os, _, _, .nil => by simp [stableAllT, stableAll]
  | none :: pl, o :: os, _, _, .nil => by simp [stableAllT, stableAll]
  | some (x, y) :: pl, o :: os, _, _, .cons hr v hs => by simp only [stableAllT, stableAll, stableIn_T hr, stableAll_T pl os hs]
  | none :: pl, o :: os, _, _, .cons hr v hs => by simp only [stableAllT, stableAll, stableAll_T pl os hs]

structure StepT where
  W : List Nat
  R : List Nat
def exOneRT (P : Program) (ops : List Oper) (o : Oper) (T : TT) (r : Nat) (H : Heap) : Option (Value × Heap) :=
  match wantT ops o T with
  | false => some (undef, H)
  | true => match exOpRG P o.op (evT T) r H with
    | some (.val v, H') => some (v, H')
    | _ => none
theorem RelT.oneR {T : TT} {n : Nat} {t : List Value} (h : RelT T n t) (ops : List Oper) (o : Oper) (r : Nat) (H : Heap) : exOneRT P ops o T r H = exOneR P noCall ops o t r H := by
  unfold exOneRT exOneR
  rw [h.want, h.ev, exOpRG_eq]
  rfl
def exFreeTT (P : Program) (ops : List Oper) (n : Nat) : List Oper → TT → Nat → Heap → Option (List StepT × TT × Heap)
  | [], T, _, H => some ([], T, H)
  | o :: rest, T, r, H => match exOneRT P ops o T r H with
    | none => none
    | some (v, H') => match exFreeTT P ops n rest (putT n T o.dst v) (r + needR o.op) H' with
      | none => none
      | some (st, T', H2) => some (⟨(touchRG P o.op (evT T) r).1, (touchRG P o.op (evT T) r).2⟩ :: st, T', H2)
def clashT (a b : StepT) : Bool := a.W.any (fun x => b.W.elem x || b.R.elem x) || b.W.any (fun x => a.R.elem x)
def apartAtT (ms : List Nat) (st : List StepT) (i : Nat) : Bool := (List.range i).all fun j => match st[i]?, st[j]? with
  | some a, some b => (ms.getD i 0).testBit j || !clashT a b
  | _, _ => true
def apartAllT (ms : List Nat) (st : List StepT) : Bool := (List.range st.length).all (apartAtT ms st)
def stepT (s : StepR) : StepT := ⟨s.W, s.R⟩
theorem apart_T (ms : List Nat) (st : List StepR) : apartAllT ms (st.map stepT) = apartAll ms st := by
  unfold apartAllT apartAll
  rw [List.length_map]
  congr 1
  funext i
  unfold apartAtT apartAt
  congr 1
  funext j
  simp only [List.getElem?_map]
  cases st[i]? with
  | none => rfl
  | some a => cases st[j]? with
    | none => rfl
    | some b => rfl
theorem free_T {ops : List Oper} {n : Nat} : ∀ {rest : List Oper} {T : TT} {r : Nat} {H : Heap} {stT : List StepT} {T' : TT} {H' : Heap}, exFreeTT P ops n rest T r H = some (stT, T', H') → ∀ {t}, RelT T n t →
    ∃ st t', exFreeT P noCall ops rest t r H = some (st, t', H') ∧ RelT T' n t' ∧ stT = st.map stepT
  | [], T, r, H, stT, T', H', h, t, hr => by
    simp only [exFreeTT, Option.some.injEq, Prod.mk.injEq] at h
    obtain ⟨rfl, rfl, rfl⟩ := h
    exact ⟨[], t, rfl, hr, rfl⟩
  | o :: rest, T, r, H, stT, T', H', h, t, hr => by
    simp only [exFreeTT] at h
    simp only [exFreeT]
    rw [hr.oneR] at h
    cases ho : exOneR P noCall ops o t r H with
    | none => rw [ho] at h; cases h
    | some p =>
      obtain ⟨v, H1⟩ := p
      rw [ho] at h
      simp only [] at h
      cases hx : exFreeTT P ops n rest (putT n T o.dst v) (r + needR o.op) H1 with
      | none => rw [hx] at h; cases h
      | some q =>
        obtain ⟨st1, T1, H2⟩ := q
        rw [hx] at h
        simp only [Option.some.injEq, Prod.mk.injEq] at h
        obtain ⟨rfl, rfl, rfl⟩ := h
        obtain ⟨st, t', h1, h2, rfl⟩ := free_T hx (hr.put o.dst v)
        rw [hr.ev]
        exact ⟨⟨t, v, (touchR P o.op t r).1, (touchR P o.op t r).2, H1⟩ :: st, t', by simp only [h1], h2, rfl⟩

def exDrawT (P : Program) (call : CallA) (ops : List Oper) (s : StT) (H : Heap) : ResT :=
  match planOf P ops with
  | none => match lateAt ops with
   | some _ => none
   | none => match freeOK ops (preOf ops) with
    | false => none
    | true => match exFreeTT P ops s.n ops s.T H.n (H.room (needAll ops)) with
      | none => none
      | some (st, T', H2) => match apartAllT (preOf ops) st with
        | true => some (.normal, ⟨s.n, T', s.ds⟩, H2)
        | false => none
  | some pl => match pl.all (·.isNone) with
    | true => match exTextT P call ops s.n ops s.T H with
      | none => none
      | some (T', H2) => some (.normal, ⟨s.n, T', s.ds⟩, H2)
    | false => match exTextS P call ops s.n ops s.T H with
      | none => none
      | some (tr, hs, T', H2) => match stableAllT P call ops (H :: hs) pl ops tr with
        | true => some (.normal, ⟨s.n, T', s.ds⟩, H2)
        | false => none
theorem draw_T {call : CallA} {ops : List Oper} {s : StT} {H : Heap} {e : ExA} {s' : StT} {H' : Heap} (h : exDrawT P call ops s H = some (e, s', H')) {t : List Value} (hr : RelT s.T s.n t) :
    ∃ t', exDraw P call ops ⟨t, s.ds⟩ H = some (e, ⟨t', s'.ds⟩, H') ∧ RelT s'.T s'.n t' := by
  unfold exDrawT at h
  unfold exDraw
  cases hp : planOf P ops with
  | none =>
    rw [hp] at h
    simp only [] at h ⊢
    unfold exNoPlan
    cases hla : lateAt ops with
    | some q => rw [hla] at h; cases h
    | none =>
    rw [hla] at h
    simp only [] at h ⊢
    unfold exFree
    split at h
    · cases h
    · rename_i hf
      simp only [hf]
      split at h
      · cases h
      · rename_i st T' H2 hx
        obtain ⟨st', t', h1, h2, rfl⟩ := free_T hx hr
        rw [apart_T] at h
        split at h
        · rename_i ha
          simp only [Option.some.injEq, Prod.mk.injEq] at h
          obtain ⟨rfl, rfl, rfl⟩ := h
          have h1 := (ev_freeT (P := P) (A := noCall) (B := fun _ => call) (fun _ _ _ _ h => by simp [noCall] at h) h1).const
          exact ⟨t', by simp only [h1, ha], h2⟩
        · cases h
  | some pl =>
    rw [hp] at h
    simp only [] at h ⊢
    split at h
    · rename_i hq
      split at h
      · cases h
      · rename_i T' H2 hx
        simp only [Option.some.injEq, Prod.mk.injEq] at h
        obtain ⟨rfl, rfl, rfl⟩ := h
        obtain ⟨tr, hs, t', h1, h2⟩ := text_T hx hr
        exact ⟨t', by simp only [h1]; rw [stableAll_quiet hq], h2⟩
    · split at h
      · cases h
      · rename_i tr hs T' H2 hx
        obtain ⟨tr', t', h1, h2, h3⟩ := textS_T hx hr
        rw [stableAll_T pl ops h3] at h
        split at h
        · rename_i hst
          simp only [Option.some.injEq, Prod.mk.injEq] at h
          obtain ⟨rfl, rfl, rfl⟩ := h
          exact ⟨t', by simp only [h1, hst], h2⟩
        · cases h
theorem le_draw {c d : CallA} (hcd : ∀ {f args H r}, c f args H = some r → d f args H = some r) {ops : List Oper} {s : St} {H : Heap} {r : ExA × St × Heap} (h : exDraw P c ops s H = some r) : exDraw P d ops s H = some r :=
  Ev.get (sup_draw (P := P) (A := onlyCall c) (B := fun _ => onlyCall d) (sup_only hcd) h)

/-! #### Calls and code -/
def exLateT (P : Program) (E : Hooks) (r : RunsT) (f : FuncId) (args : List Value) (H : Heap) : Option Heap :=
  match E.has f with
  | true => none
  | false => match P.funcs[f]? with
    | some fn => match fn.body with
      | some c => match isRec P fn c with
       | true => some H
       | false => match fn.name == "runtime.NumGoroutine" with
        | true => none
        | false => match Nat.ble args.length fn.ntmps with
         | false => none
         | true => match r.code c ⟨fn.ntmps, slotsT fn.ntmps args, []⟩ H with
          | some (.normal, ⟨_, T, []⟩, H') | some (.ret, ⟨_, T, []⟩, H') => (exResultsT P fn.results.toList T H').map fun _ => H'
          | _ => none
      | none => none
    | none => none
def exLeaveT (P : Program) (E : Hooks) (r : RunsT) : List (FuncId × List Value) → Heap → Option Heap
  | [], H => some H
  | d :: ds, H => match exLateT P E r d.1 d.2 H with
    | some H' => exLeaveT P E r ds H'
    | none => none
def exBodyT (P : Program) (E : Hooks) (r : RunsT) (fn : Func) (c : Code) (args : List Value) (H : Heap) : Option (Out × Heap) :=
  match Nat.ble args.length fn.ntmps with
  | false => none
  | true => match r.code c ⟨fn.ntmps, slotsT fn.ntmps args, []⟩ H with
    | some (e, s, H') => match exLeaveT P E r s.ds H' with
      | some H2 => match e with
        | .pan v => match recs P s.ds with | true => none | false => some (.pan v, H2)
        | .normal | .ret => (exResultsT P fn.results.toList s.T H2).map fun l => (.val (tupleOf l), H2)
        | _ => none
      | none => none
    | none => none
def exCallT (P : Program) (E : Hooks) (r : RunsT) (f : FuncId) (args : List Value) (H : Heap) : Option (Out × Heap) :=
  match E.has f with
  | true => E.run f args H
  | false => match P.funcs[f]? with
    | some fn => match fn.body with
      | some c => match fn.name == "runtime.NumGoroutine" with
        | true => none
        | false => exBodyT P E r fn c args H
      | none => none
    | none => none
def exCodeT (P : Program) (r : RunsT) (c : Code) (s : StT) (H : Heap) : ResT :=
  match c with
  | .skip | .label _ => some (.normal, s, H)
  | .region _ ops draw => match draw with
    | false => exListT P r.call ops.toList ops.toList s H
    | true => exDrawT P r.call ops.toList s H
  | .seq a b => match r.code a s H with
    | some (.normal, s', H') => r.code b s' H'
    | x => x
  | .cond c x y => match evT s.T c with
    | some (.bool true) => r.code x s H
    | some (.bool false) => r.code y s H
    | _ => none
  | .block id c => match r.code c s H with
    | some (.exit id', s', H') => match Nat.beq id' id with
      | true => some (.normal, s', H')
      | false => some (.exit id', s', H')
    | x => x
  | .loop c => match r.code c s H with
    | some (.normal, s', H') => r.code (.loop c) s' H'
    | x => x
  | .exit id => some (.exit id, s, H)
  | .goto l => some (.goto l, s, H)
  | .ret => some (.ret, s, H)
  | .scope c => r.scope c c s H
  | _ => none
def exScopeT (r : RunsT) (body cur : Code) (s : StT) (H : Heap) : ResT :=
  match r.code cur s H with
  | some (.goto l, s', H') => match findLabel body l with
    | some rest => r.scope body rest s' H'
    | none => some (.goto l, s', H')
  | x => x
def runsT (P : Program) (E : Hooks) : Nat → RunsT
  | 0 => ⟨fun _ _ _ => none, fun _ _ _ => none, fun _ _ _ _ => none⟩
  | n + 1 =>
    ⟨fun f args H => exCallT P E (runsT P E n) f args H,
     fun c s H => exCodeT P (runsT P E n) c s H,
     fun b c s H => exScopeT (runsT P E n) b c s H⟩

section
variable {A : RunsT} {B : Runs} (S : LeT A B)
include S
theorem late_T {f : FuncId} {args : List Value} {H H' : Heap} (h : exLateT P E A f args H = some H') : exLate P E B f args H = some H' := by
  unfold exLateT at h
  unfold exLate
  cases h1 : E.has f with
  | true => rw [h1] at h; cases h
  | false =>
    rw [h1] at h
    simp only [] at h ⊢
    cases h2 : P.funcs[f]? with
    | none => rw [h2] at h; cases h
    | some fn =>
      rw [h2] at h
      simp only [] at h ⊢
      cases h3 : fn.body with
      | none => rw [h3] at h; cases h
      | some c =>
        rw [h3] at h
        simp only [] at h ⊢
        cases h4 : isRec P fn c with
        | true => rw [h4] at h; exact h
        | false =>
          rw [h4] at h
          simp only [] at h ⊢
          cases h5 : fn.name == "runtime.NumGoroutine" with
          | true => rw [h5] at h; cases h
          | false =>
            rw [h5] at h
            simp only [] at h ⊢
            cases h6 : Nat.ble args.length fn.ntmps with
            | false => rw [h6] at h; cases h
            | true =>
              rw [h6] at h
              simp only [] at h
              have hrel := slotsT_rel fn args (Nat.le_of_ble_eq_true h6)
              cases h7 : A.code c ⟨fn.ntmps, slotsT fn.ntmps args, []⟩ H with
              | none => rw [h7] at h; cases h
              | some p =>
                obtain ⟨e, ⟨n1, T1, ds1⟩, H1⟩ := p
                rw [h7] at h
                obtain ⟨t', k1, k2⟩ := S.code h7 hrel
                simp only [] at k1
                rw [k1]
                cases e <;> first | (cases h; done) | skip
                all_goals
                  cases ds1 with
                  | cons a as => cases h
                  | nil =>
                    simp only [] at h ⊢
                    rw [k2.results] at h
                    exact h
theorem leave_T : ∀ {ds : List (FuncId × List Value)} {H H' : Heap}, exLeaveT P E A ds H = some H' → exLeave P E B ds H = some H'
  | [], H, H', h => h
  | d :: ds, H, H', h => by
    simp only [exLeaveT] at h
    simp only [exLeave]
    cases h1 : exLateT P E A d.1 d.2 H with
    | none => rw [h1] at h; cases h
    | some H1 =>
      rw [h1] at h
      rw [late_T S h1]
      exact leave_T h
theorem body_T {fn : Func} {c : Code} {args : List Value} {H : Heap} {r : Out × Heap} (h : exBodyT P E A fn c args H = some r) : exBody P E B fn c args H = some r := by
  unfold exBodyT at h
  unfold exBody
  cases h6 : Nat.ble args.length fn.ntmps with
  | false => rw [h6] at h; cases h
  | true =>
    rw [h6] at h
    simp only [] at h
    have hrel := slotsT_rel fn args (Nat.le_of_ble_eq_true h6)
    cases h7 : A.code c ⟨fn.ntmps, slotsT fn.ntmps args, []⟩ H with
    | none => rw [h7] at h; cases h
    | some p =>
      obtain ⟨e, ⟨n1, T1, ds1⟩, H1⟩ := p
      rw [h7] at h
      obtain ⟨t', k1, k2⟩ := S.code h7 hrel
      simp only [] at k1 h
      rw [k1]
      simp only []
      cases h8 : exLeaveT P E A ds1 H1 with
      | none => rw [h8] at h; cases h
      | some H2 =>
        rw [h8] at h
        rw [leave_T S h8]
        simp only [] at h ⊢
        cases e <;> first | (cases h; done) | skip
        case pan v => exact h
        all_goals
          simp only [] at h ⊢
          rw [k2.results] at h
          exact h
theorem call_T {f : FuncId} {args : List Value} {H : Heap} {r : Out × Heap} (h : exCallT P E A f args H = some r) : exCall P E B f args H = some r := by
  unfold exCallT at h
  unfold exCall
  cases h1 : E.has f with
  | true => rw [h1] at h; exact h
  | false =>
    rw [h1] at h
    simp only [] at h ⊢
    cases h2 : P.funcs[f]? with
    | none => rw [h2] at h; cases h
    | some fn =>
      rw [h2] at h
      simp only [] at h ⊢
      cases h3 : fn.body with
      | none => rw [h3] at h; cases h
      | some c =>
        rw [h3] at h
        simp only [] at h ⊢
        cases h5 : fn.name == "runtime.NumGoroutine" with
        | true => rw [h5] at h; cases h
        | false => rw [h5] at h; exact body_T S h
theorem then_T {a b : Code} {s : StT} {H : Heap} {e : ExA} {s' : StT} {H' : Heap} (h : (match A.code a s H with | some (.normal, s', H') => A.code b s' H' | x => x) = some (e, s', H')) {t : List Value} (hr : RelT s.T s.n t) :
    ∃ t', (match B.code a ⟨t, s.ds⟩ H with | some (.normal, s', H') => B.code b s' H' | x => x) = some (e, ⟨t', s'.ds⟩, H') ∧ RelT s'.T s'.n t' := by
  cases h1 : A.code a s H with
  | none => rw [h1] at h; cases h
  | some p =>
    obtain ⟨e1, s1, H1⟩ := p
    rw [h1] at h
    obtain ⟨t1, k1, k2⟩ := S.code h1 hr
    rw [k1]
    cases e1 with
    | normal => exact S.code h k2
    | _ =>
      simp only [Option.some.injEq, Prod.mk.injEq] at h
      obtain ⟨rfl, rfl, rfl⟩ := h
      exact ⟨t1, rfl, k2⟩
theorem code_T {c : Code} {s : StT} {H : Heap} {e : ExA} {s' : StT} {H' : Heap} (h : exCodeT P A c s H = some (e, s', H')) {t : List Value} (hr : RelT s.T s.n t) :
    ∃ t', exCode P B (exDraw P B.call) c ⟨t, s.ds⟩ H = some (e, ⟨t', s'.ds⟩, H') ∧ RelT s'.T s'.n t' := by
  have same : ∀ {x : ExA}, some (x, s, H) = some (e, s', H') → ∃ t', some (x, (⟨t, s.ds⟩ : St), H) = some (e, ⟨t', s'.ds⟩, H') ∧ RelT s'.T s'.n t' := by
    intro x h
    simp only [Option.some.injEq, Prod.mk.injEq] at h
    obtain ⟨rfl, rfl, rfl⟩ := h
    exact ⟨t, rfl, hr⟩
  cases c with
  | region id ops draw =>
    cases draw with
    | false => exact list_T S.call h hr
    | true =>
      obtain ⟨t', h1, h2⟩ := draw_T h hr
      exact ⟨t', le_draw S.call h1, h2⟩
  | seq a b => exact then_T S h hr
  | cond x a b =>
    simp only [exCodeT] at h
    simp only [exCode]
    rw [hr.ev] at h
    split at h
    · rename_i hx; simp only [hx]; exact S.code h hr
    · rename_i hx; simp only [hx]; exact S.code h hr
    · cases h
  | block id c =>
    simp only [exCodeT] at h
    simp only [exCode]
    cases h1 : A.code c s H with
    | none => rw [h1] at h; cases h
    | some p =>
      obtain ⟨e1, s1, H1⟩ := p
      rw [h1] at h
      obtain ⟨t1, k1, k2⟩ := S.code h1 hr
      rw [k1]
      cases e1 with
      | exit i =>
        simp only [] at h ⊢
        cases hb : Nat.beq i id <;> (simp only [hb, Option.some.injEq, Prod.mk.injEq] at h ⊢; obtain ⟨rfl, rfl, rfl⟩ := h; exact ⟨t1, ⟨rfl, rfl, rfl⟩, k2⟩)
      | _ =>
        simp only [Option.some.injEq, Prod.mk.injEq] at h
        obtain ⟨rfl, rfl, rfl⟩ := h
        exact ⟨t1, rfl, k2⟩
  | loop c => exact then_T (a := c) (b := .loop c) S h hr
  | scope c => exact S.scope h hr
  | skip => exact same h
  | label l => exact same h
  | exit i => exact same h
  | goto l => exact same h
  | ret => exact same h
  | _ => cases h
theorem scope_T {b c : Code} {s : StT} {H : Heap} {e : ExA} {s' : StT} {H' : Heap} (h : exScopeT A b c s H = some (e, s', H')) {t : List Value} (hr : RelT s.T s.n t) :
    ∃ t', exScope B b c ⟨t, s.ds⟩ H = some (e, ⟨t', s'.ds⟩, H') ∧ RelT s'.T s'.n t' := by
  unfold exScopeT at h
  unfold exScope
  cases h1 : A.code c s H with
  | none => rw [h1] at h; cases h
  | some p =>
    obtain ⟨e1, s1, H1⟩ := p
    rw [h1] at h
    obtain ⟨t1, k1, k2⟩ := S.code h1 hr
    rw [k1]
    cases e1 with
    | goto l =>
      simp only [] at h ⊢
      cases hf : findLabel b l with
      | none =>
        rw [hf] at h
        simp only [Option.some.injEq, Prod.mk.injEq] at h
        obtain ⟨rfl, rfl, rfl⟩ := h
        exact ⟨t1, rfl, k2⟩
      | some rest => rw [hf] at h; exact S.scope h k2
    | _ =>
      simp only [Option.some.injEq, Prod.mk.injEq] at h
      obtain ⟨rfl, rfl, rfl⟩ := h
      exact ⟨t1, rfl, k2⟩
end
theorem runs_T : ∀ n, LeT (runsT P E n) (runs P E n)
  | 0 => ⟨fun h => (by cases h), fun h => (by cases h), fun h => (by cases h)⟩
  | n + 1 => ⟨fun h => call_T (runs_T n) h, fun h => code_T (runs_T n) h, fun h => scope_T (runs_T n) h⟩
theorem tree_call {n : Nat} {f : FuncId} {args : List Value} {H : Heap} (h : isTrueOut ((runsT P E n).call f args H) = true) : isTrueOut ((runs P E n).call f args H) = true := by
  cases h1 : (runsT P E n).call f args H with
  | none => rw [h1] at h; cases h
  | some r => rw [(runs_T n).call h1]; rw [h1] at h; exact h
end Go.Vm
