/- What is proved: a region whose order is drawn, whatever the order: the run in the order of the text; no theorem of the program. -/
import Derived.Test.YtiokhadpkpkpoaaVmF
namespace Go.Vm
open Go.RowKit
set_option linter.unusedSimpArgs false
set_option linter.unusedVariables false
variable {P : Program} {N : Nat} {W0 : World} {L : Lay} {H : Heap} {w : World}

/-! ### What is bound to come ahead -/
theorem maskOf_bit {ms : List Nat} {es : List Edge} {j : Nat} (h : (maskOf ms es).testBit j = true) : ∃ e ∈ es, Region.binds .any e = true ∧ (e.on = j ∨ (ms.getD e.on 0).testBit j = true) := by
  induction es with
  | nil => simp [maskOf] at h
  | cons e es ih =>
    simp only [maskOf] at h
    split at h
    · rename_i hb
      simp only [Nat.testBit_or, Bool.or_eq_true, Nat.testBit_two_pow] at h
      rcases h with (h | h) | h
      · exact ⟨e, by simp, hb, .inl (by simpa using h)⟩
      · exact ⟨e, by simp, hb, .inr h⟩
      · obtain ⟨e', h1, h2⟩ := ih h
        exact ⟨e', by simp [h1], h2⟩
    · obtain ⟨e', h1, h2⟩ := ih h
      exact ⟨e', by simp [h1], h2⟩

/-- A set that holds all that is bound to come ahead of what it holds. -/
def Closed (ops : List Oper) (X : Nat → Bool) : Prop := ∀ i o, ops[i]? = some o → X i = true → ∀ e ∈ o.after.toList, Region.binds .any e = true → X e.on = true

theorem preGo_sound (all : List Oper) (X : Nat → Bool) (hX : Closed all X) : ∀ (os : List Oper) (ms : List Nat), os = all.drop ms.length → (∀ i j, (ms.getD i 0).testBit j = true → X i = true → X j = true) →
    ∀ i j, ((preGo ms os).getD i 0).testBit j = true → X i = true → X j = true
  | [], ms, _, h => h
  | o :: os, ms, hos, h => by
    simp only [preGo]
    have hlt : ms.length < all.length := by
      rcases Nat.lt_or_ge ms.length all.length with h1 | h1
      · exact h1
      · rw [List.drop_eq_nil_of_le h1] at hos; cases hos
    have hcons := List.drop_eq_getElem_cons hlt
    rw [hcons] at hos
    simp only [List.cons.injEq] at hos
    obtain ⟨ho, hrest⟩ := hos
    refine preGo_sound all X hX os _ (by simpa using hrest) ?_
    intro i j hij hi
    rcases Nat.lt_trichotomy i ms.length with h1 | h1 | h1
    · rw [List.getD_eq_getElem?_getD, List.getElem?_append_left h1, ← List.getD_eq_getElem?_getD] at hij
      exact h i j hij hi
    · subst h1
      rw [List.getD_eq_getElem?_getD, List.getElem?_append_right (Nat.le_refl _)] at hij
      simp only [Nat.sub_self, List.getElem?_cons_zero, Option.getD_some] at hij
      obtain ⟨e, e1, e2, e3⟩ := maskOf_bit hij
      have hon := hX ms.length o (by rw [ho]; simp [hlt]) hi e e1 e2
      rcases e3 with e3 | e3
      · exact e3 ▸ hon
      · exact h _ _ e3 hon
    · rw [List.getD_eq_getElem?_getD, List.getElem?_eq_none (by simp; omega)] at hij
      simp at hij

theorem preOf_sound {ops : List Oper} {X : Nat → Bool} (hX : Closed ops X) {i j : Nat} (h : ((preOf ops).getD i 0).testBit j = true) (hi : X i = true) : X j = true :=
  preGo_sound ops X hX ops [] rfl (by simp) i j h hi

/-! ### The slots, when a part of the operations has come up -/
def slots (p : Nat → Bool) : List Oper → List (List Value × Value) → Nat → List Value → List Value
  | o :: os, (_, v) :: tr, i, t => slots p os tr (i + 1) (match p i with | true => putA t o.dst v | false => t)
  | _, _, _, t => t

theorem slots_ext {p q : Nat → Bool} : ∀ (os : List Oper) (tr : List (List Value × Value)) (i : Nat) (t : List Value), (∀ k, i ≤ k → k < i + os.length → p k = q k) → slots p os tr i t = slots q os tr i t
  | [], _, _, _, _ => by simp [slots]
  | _ :: _, [], _, _, _ => by simp [slots]
  | o :: os, (_, v) :: tr, i, t, h => by
    simp only [slots]
    rw [h i (Nat.le_refl i) (by simp)]
    exact slots_ext os tr (i + 1) _ fun k h1 h2 => h k (by omega) (by simp; omega)

theorem slots_none {p : Nat → Bool} : ∀ (os : List Oper) (tr : List (List Value × Value)) (i : Nat) (t : List Value), (∀ k, i ≤ k → p k = false) → slots p os tr i t = t
  | [], _, _, _, _ => by simp [slots]
  | _ :: _, [], _, _, _ => by simp [slots]
  | o :: os, (_, v) :: tr, i, t, h => by
    simp only [slots]
    rw [h i (Nat.le_refl i)]
    exact slots_none os tr (i + 1) _ fun k h1 => h k (by omega)

theorem putA_comm {t : List Value} {x y : Option Tmp} {v u : Value} (h : ∀ d, x = some d → y ≠ some d) : putA (putA t x v) y u = putA (putA t y u) x v := by
  cases x with
  | none => rfl
  | some d =>
    cases y with
    | none => rfl
    | some e =>
      have hne : d ≠ e := fun he => h d rfl (he ▸ rfl)
      simp only [putA]
      exact List.set_comm _ _ hne

theorem slots_put {p : Nat → Bool} {x : Option Tmp} {v : Value} : ∀ (os : List Oper) (tr : List (List Value × Value)) (i : Nat) (t : List Value),
    (∀ k o, os[k]? = some o → p (i + k) = true → ∀ d, x = some d → o.dst ≠ some d) → slots p os tr i (putA t x v) = putA (slots p os tr i t) x v
  | [], _, _, _, _ => by simp [slots]
  | _ :: _, [], _, _, _ => by simp [slots]
  | o :: os, (_, u) :: tr, i, t, h => by
    simp only [slots]
    have ih := fun t => @slots_put p x v os tr (i + 1) t (fun k o hk hp => h (k + 1) o (by simpa using hk) (by rwa [show i + (k + 1) = i + 1 + k by omega]))
    cases hp : p i with
    | false => exact ih t
    | true =>
      simp only []
      rw [putA_comm (h 0 o rfl hp)]
      exact ih _

/-- One more operation has come up. -/
theorem slots_add {p : Nat → Bool} {n : Nat} {on : Oper} : ∀ (os : List Oper) (tr : List (List Value × Value)) (i : Nat) (t : List Value), (m : Nat) → n = i + m → os[m]? = some on → p n = false →
    ∀ {tn : List Value} {v : Value}, tr[m]? = some (tn, v) → (∀ k o, os[k]? = some o → n < i + k → p (i + k) = true → ∀ d, on.dst = some d → o.dst ≠ some d) →
    slots (fun k => p k || Nat.beq k n) os tr i t = putA (slots p os tr i t) on.dst v
  | [], _, _, _, m, _, h, _, _, _, _, _ => by simp at h
  | _ :: _, [], _, _, m, _, _, _, _, _, h, _ => by simp at h
  | o :: os, (tu, u) :: tr, i, t, 0, hn, ho, hp, tn, v, hv, hk => by
    simp only [List.getElem?_cons_zero, Option.some.injEq] at ho hv
    simp only [Nat.add_zero] at hn
    subst hn
    obtain ⟨rfl, rfl⟩ := Prod.mk.injEq .. ▸ hv
    subst ho
    simp only [slots, hp, Bool.false_or]
    rw [Nat.beq_refl]
    simp only []
    rw [slots_ext (p := fun k => p k || Nat.beq k n) (q := p) os tr (n + 1) _ (fun k h1 h2 => by
      have : Nat.beq k n = false := by
        cases hb : Nat.beq k n with
        | false => rfl
        | true => have := Nat.eq_of_beq_eq_true hb; omega
      simp [this])]
    exact slots_put os tr (n + 1) t fun k o' hk' hp' d hd => hk (k + 1) o' (by simpa using hk') (by omega) (by rwa [show n + (k + 1) = n + 1 + k by omega]) d hd
  | o :: os, (tu, u) :: tr, i, t, m + 1, hn, ho, hp, tn, v, hv, hk => by
    simp only [slots]
    have hb : Nat.beq i n = false := by
      cases hb : Nat.beq i n with
      | false => rfl
      | true => have := Nat.eq_of_beq_eq_true hb; omega
    rw [hb, Bool.or_false]
    exact slots_add os tr (i + 1) _ m (by omega) (by simpa using ho) hp (by simpa using hv) fun k o' hk' hlt hp' d hd => hk (k + 1) o' (by simpa using hk') (by omega) (by rwa [show i + (k + 1) = i + 1 + k by omega]) d hd

/-- A slot that is named by no operation of which one has come up in the one case alone. -/
theorem slots_at {p q : Nat → Bool} {s : Nat} : ∀ (os : List Oper) (tr : List (List Value × Value)) (i : Nat) (t t2 : List Value), (∀ k o, os[k]? = some o → o.dst = some s → p (i + k) = q (i + k)) →
    t[s]? = t2[s]? → t.length = t2.length → (slots p os tr i t)[s]? = (slots q os tr i t2)[s]?
  | [], _, _, _, _, _, h, _ => by simpa [slots] using h
  | _ :: _, [], _, _, _, _, h, _ => by simpa [slots] using h
  | o :: os, (_, u) :: tr, i, t, t2, h, h1, h2 => by
    simp only [slots]
    have hp : o.dst = some s → p i = q i := h 0 o rfl
    refine slots_at os tr (i + 1) _ _ (fun k o' hk hd => by have := h (k + 1) o' (by simpa using hk) hd; rwa [show i + (k + 1) = i + 1 + k by omega] at this) ?_ ?_
    · by_cases hd : o.dst = some s
      · rw [← hp hd]
        cases p i with
        | false => exact h1
        | true => simp only [hd, putA, List.getElem?_set, h2, if_true]
      · have key : ∀ (b : Bool) (t : List Value), (match b with | true => putA t o.dst u | false => t)[s]? = t[s]? := by
          intro b t
          cases b with
          | false => rfl
          | true =>
            cases hx : o.dst with
            | none => rfl
            | some d =>
              have : d ≠ s := fun e => hd (e ▸ hx)
              simp only [putA]
              exact List.getElem?_set_ne this
        rw [key, key, h1]
    · have key : ∀ (b : Bool) (t : List Value), (match b with | true => putA t o.dst u | false => t).length = t.length := by
        intro b t
        cases b with
        | false => rfl
        | true => cases o.dst <;> simp [putA]
      rw [key, key, h2]

end Go.Vm

namespace Go.Vm
open Go.RowKit
set_option linter.unusedSimpArgs false
set_option linter.unusedVariables false
variable {P : Program} {N : Nat} {W0 : World} {L : Lay} {H : Heap} {w : World}

theorem evL_congr {t t2 : List Value} : ∀ {xs : List Operand}, (∀ x ∈ xs, evA t x = evA t2 x) → evL t xs = evL t2 xs
  | [], _ => rfl
  | x :: xs, h => by simp only [evL]; rw [h x (by simp), evL_congr fun y hy => h y (by simp [hy])]
theorem evO_congr {t t2 : List Value} : ∀ {x : Option Operand}, (∀ y, x = some y → evA t y = evA t2 y) → evO t x = evO t2 x
  | none, _ => rfl
  | some x, h => by simp only [evO]; rw [h x rfl]
theorem evP_congr {t t2 : List Value} : ∀ {xs : List (Nat × Operand)}, (∀ x ∈ xs.map (·.2), evA t x = evA t2 x) → evP t xs = evP t2 xs
  | [], _ => rfl
  | (i, x) :: xs, h => by simp only [evP]; rw [h x (by simp), evP_congr fun y hy => h y (by simp at hy ⊢; right; exact hy)]

theorem exOp_congr {call : CallA} {t t2 : List Value} (o : Op) (h : ∀ x ∈ o.operands.toList, evA t x = evA t2 x) : exOp P call o t H = exOp P call o t2 H := by
  cases o <;> simp only [Op.operands] at h <;> simp only [exOp]
  case build ty ps => rw [evP_congr fun x hx => h x (by simpa using hx)]
  case buildSlice ty n ps => rw [evP_congr fun x hx => h x (by simpa using hx)]
  case makeFunc fn first captured =>
    cases fn <;> simp only []
    rw [evL_congr (xs := first.toList) fun x hx => h x (by simp at hx ⊢; exact .inl hx), evL_congr (xs := captured.toList) fun x hx => h x (by simp at hx ⊢; exact .inr hx)]
  case call c =>
    unfold exCallOp
    rw [evL_congr (xs := c.args.toList) fun x hx => h x (by simp [Call.operands] at hx ⊢; first | exact .inl hx | exact .inr hx)]
    cases hc : c.callee with
    | value f => simp only []; rw [h f (by simp [Call.operands, hc])]
    | invoke r m => simp only []; rw [h r (by simp [Call.operands, hc])]
    | builtin b => rfl
  case slice ty x lo hi mx =>
    rw [h x (by simp), evO_congr (x := lo) fun y hy => h y (by simp [hy]), evO_congr (x := hi) fun y hy => h y (by simp [hy]), evO_congr (x := mx) fun y hy => h y (by simp [hy])]
  case makeMap ty r => cases r <;> rfl
  all_goals (first | rfl | (simp only [List.mem_cons, List.not_mem_nil, or_false, forall_eq_or_imp, forall_eq] at h; simp only [h]; done) | (simp at h; simp only [h]; done))

theorem evA_at {t t2 : List Value} {x : Operand} (h : ∀ d, x = .tmp d → t[d]? = t2[d]?) : evA t x = evA t2 x := by
  cases x with
  | tmp d => simp only [evA, List.getD_eq_getElem?_getD, h d rfl]
  | _ => rfl

theorem exOne_congr {call : CallA} {ops : List Oper} {o : Oper} {t t2 : List Value} (h : ∀ s ∈ namesA ops o, t[s]? = t2[s]?) : exOne P call ops o t H = exOne P call ops o t2 H := by
  have e1 : wantA ops o t = wantA ops o t2 := by
    unfold wantA
    cases hg : o.guard with
    | none => rfl
    | some g =>
      obtain ⟨j, want⟩ := g
      simp only []
      cases hd : (ops[j]?).bind (·.dst) with
      | none => rfl
      | some d => simp only []; rw [h d (by simp [namesA, hg, hd])]
  have e2 : exOp P call o.op t H = exOp P call o.op t2 H := exOp_congr o.op fun x hx => evA_at fun d hd => h d (by
    subst hd
    refine List.mem_append_left _ (List.mem_append_right _ (List.mem_filterMap.2 ⟨.tmp d, hx, rfl⟩)))
  unfold exOne
  rw [e1, e2]

theorem val1_keeps {r : Option Value} {H H' : Heap} {out : Out} (h : val1 r H = some (out, H')) : H' = H := (val1_some h).choose_spec.2.2

theorem convert_keeps {s d : TypeId} {x : Value} {y : Operand} {v : Value} {H' : Heap} (hw : isW P (.convert s d y) = false) (h : exConvert P s d x H = some (v, H')) : H' = H := by
  simp only [isW] at hw
  cases h1 : P.underlying s with
  | none => simp [h1] at hw; try (split at hw <;> simp_all)
  | some a =>
    cases h2 : P.underlying d with
    | none => rw [h1, h2] at hw; cases a <;> simp at hw
    | some b =>
      rw [h1, h2] at hw
      unfold exConvert at h
      rw [h1, h2] at h
      cases a <;> first | (simp at hw; done) | skip
      all_goals cases b <;> first | (simp at hw; done) | skip
      all_goals
        simp only [] at h
        split at h
        · simp only [Option.map_eq_some_iff, Prod.mk.injEq] at h
          obtain ⟨_, _, _, rfl⟩ := h
          rfl
        · cases h

theorem isW_keeps {call : CallA} {o : Op} {t : List Value} {out : Out} {H' : Heap} (hw : isW P o = false) (h : exOp P call o t H = some (out, H')) : H' = H := by
  cases o <;> first | (simp [isW] at hw; done) | skip
  case call c =>
    obtain ⟨callee, args, argTypes⟩ := c
    cases callee with
    | builtin b =>
      simp only [exOp, exCallOp] at h
      split at h
      · cases h
      · cases b <;> first | (simp [isW] at hw; done) | skip
        all_goals
          simp only [exBuiltin] at h
          split at h
          all_goals first | cases h | exact val1_keeps h | (simp_all; done) | (split at h <;> first | exact val1_keeps h | cases h)
    | _ => simp [isW] at hw
  case convert s d x =>
    simp only [exOp] at h
    split at h
    · obtain ⟨v, h1, _⟩ := val2_some h
      exact convert_keeps hw h1
    · cases h
  case makeFunc fn x y =>
    cases fn <;> simp only [exOp] at h
    case func f =>
      split at h
      · simp only [Option.some.injEq, Prod.mk.injEq] at h; exact h.2.symm
      · cases h
    all_goals cases h
  all_goals
    simp only [exOp] at h
    first
      | exact val1_keeps h
      | (repeat' split at h
         all_goals first | (cases h; done) | (cases h; rfl) | exact val1_keeps h)

end Go.Vm

namespace Go.Vm
open Go.RowKit
set_option linter.unusedSimpArgs false
set_option linter.unusedVariables false
variable {P : Program} {N : Nat} {W0 : World} {L : Lay} {H : Heap} {w : World}

theorem cntW_mono {p q : Nat → Bool} : ∀ (os : List Oper) (i : Nat), (∀ k o, os[k]? = some o → isW P o.op = true → p (i + k) = true → q (i + k) = true) → cntW P p os i ≤ cntW P q os i
  | [], _, _ => Nat.le_refl _
  | o :: os, i, h => by
    simp only [cntW]
    have ih := @cntW_mono p q os (i + 1) (fun k o' hk hw hp => by have := h (k + 1) o' (by simpa using hk) hw; rw [show i + (k + 1) = i + 1 + k by omega] at this; exact this hp)
    have h0 := h 0 o rfl
    simp only [Nat.add_zero] at h0
    cases hw : isW P o.op <;> cases hp : p i <;> cases hq : q i <;> simp_all <;> omega

theorem cntW_ext {p q : Nat → Bool} (os : List Oper) (i : Nat) (h : ∀ k o, os[k]? = some o → isW P o.op = true → p (i + k) = q (i + k)) : cntW P p os i = cntW P q os i :=
  Nat.le_antisymm (cntW_mono os i fun k o h1 h2 h3 => (h k o h1 h2) ▸ h3) (cntW_mono os i fun k o h1 h2 h3 => (h k o h1 h2).symm ▸ h3)

theorem cntW_none {p : Nat → Bool} : ∀ (os : List Oper) (i : Nat), (∀ k, i ≤ k → p k = false) → cntW P p os i = 0
  | [], _, _ => rfl
  | o :: os, i, h => by
    simp only [cntW, h i (Nat.le_refl i), Bool.and_false]
    rw [cntW_none os (i + 1) fun k hk => h k (by omega)]

theorem cntW_add {p : Nat → Bool} {n : Nat} {on : Oper} : ∀ (os : List Oper) (i m : Nat), n = i + m → os[m]? = some on → p n = false →
    cntW P (fun k => p k || Nat.beq k n) os i = cntW P p os i + (match isW P on.op with | true => 1 | false => 0)
  | [], _, _, _, h, _ => by simp at h
  | o :: os, i, 0, hn, ho, hp => by
    simp only [List.getElem?_cons_zero, Option.some.injEq] at ho
    subst ho
    simp only [Nat.add_zero] at hn
    subst hn
    simp only [cntW, hp, Bool.false_or, Bool.and_false, Nat.beq_refl, Bool.and_true]
    rw [cntW_ext (p := fun k => p k || Nat.beq k n) (q := p) os (n + 1) (fun k o' h1 h2 => by
      have : Nat.beq (n + 1 + k) n = false := by
        cases hb : Nat.beq (n + 1 + k) n with
        | false => rfl
        | true => have := Nat.eq_of_beq_eq_true hb; omega
      simp [this])]
    cases isW P o.op <;> simp only [] <;> omega
  | o :: os, i, m + 1, hn, ho, hp => by
    simp only [cntW]
    have hb : Nat.beq i n = false := by
      cases hb : Nat.beq i n with
      | false => rfl
      | true => have := Nat.eq_of_beq_eq_true hb; omega
    rw [hb, Bool.or_false, cntW_add os (i + 1) m (by omega) (by simpa using ho) hp]
    omega

theorem exOne_keeps {call : CallA} {ops : List Oper} {o : Oper} {t : List Value} {v : Value} {H' : Heap} (hw : isW P o.op = false) (h : exOne P call ops o t H = some (v, H')) : H' = H := by
  unfold exOne at h
  split at h
  · simp only [Option.some.injEq, Prod.mk.injEq] at h; exact h.2.symm
  · split at h
    · rename_i v' H1 he
      simp only [Option.some.injEq, Prod.mk.injEq] at h
      obtain ⟨rfl, rfl⟩ := h
      exact isW_keeps hw he
    · cases h

theorem blt_false {a b : Nat} (h : b ≤ a) : Nat.blt a b = false := by
  cases hb : Nat.blt a b with
  | false => rfl
  | true => simp [Nat.blt, Nat.ble_eq] at hb; omega
theorem blt_true {a b : Nat} (h : a < b) : Nat.blt a b = true := by simp [Nat.blt, Nat.ble_eq]; omega

/-- What the run in the order of the text has come to at each operation. -/
structure TextAt (P : Program) (call : CallA) (all : List Oper) (Hs : List Heap) (tr : List (List Value × Value)) (os : List Oper) (i m : Nat) (t : List Value) (o : Oper) (v : Value) (M M' : Heap) : Prop where
  at_ : tr[m]? = some (slots (fun k => Nat.blt k (i + m)) os tr i t, v)
  heap : Hs[cntW P (fun k => Nat.blt k (i + m)) os i]? = some M
  run : exOne P call all o (slots (fun k => Nat.blt k (i + m)) os tr i t) M = some (v, M')
  next : isW P o.op = true → Hs[cntW P (fun k => Nat.blt k (i + m)) os i + 1]? = some M'

theorem text_at {call : CallA} {all : List Oper} : ∀ {os : List Oper} {t : List Value} {H : Heap} {tr : List (List Value × Value)} {hs : List Heap} {t' : List Value} {H2 : Heap},
    exText P call all os t H = some (tr, hs, t', H2) → ∀ i, tr.length = os.length ∧ (∀ m o, os[m]? = some o → ∃ v M M', TextAt P call all (H :: hs) tr os i m t o v M M') ∧
      t' = slots (fun _ => true) os tr i t ∧ (H :: hs)[cntW P (fun _ => true) os i]? = some H2
  | [], t, H, tr, hs, t', H2, h, i => by
    simp only [exText, Option.some.injEq, Prod.mk.injEq] at h
    obtain ⟨rfl, rfl, rfl, rfl⟩ := h
    exact ⟨rfl, fun m o h => by simp at h, by simp [slots], by simp [cntW]⟩
  | o :: os, t, H, tr, hs, t', H2, h, i => by
    simp only [exText] at h
    split at h
    · cases h
    · rename_i v H' h1
      split at h
      · cases h
      · rename_i tr1 hs1 t1 H3 h2
        obtain ⟨e1, e2, e3, e4⟩ := text_at h2 (i + 1)
        have hsl : ∀ m, slots (fun k => Nat.blt k (i + (m + 1))) (o :: os) ((t, v) :: tr1) i t = slots (fun k => Nat.blt k (i + 1 + m)) os tr1 (i + 1) (putA t o.dst v) := by
          intro m
          simp only [slots]
          rw [blt_true (show i < i + (m + 1) by omega), show i + (m + 1) = i + 1 + m by omega]
        have hs0 : slots (fun k => Nat.blt k (i + 0)) (o :: os) ((t, v) :: tr1) i t = t := slots_none _ _ _ _ fun k hk => blt_false (by omega)
        have hc0 : cntW P (fun k => Nat.blt k (i + 0)) (o :: os) i = 0 := cntW_none _ _ fun k hk => blt_false (by omega)
        cases hw : isW P o.op with
        | true =>
          simp only [hw, Option.some.injEq, Prod.mk.injEq] at h
          obtain ⟨rfl, rfl, rfl, rfl⟩ := h
          have hc : ∀ m, cntW P (fun k => Nat.blt k (i + (m + 1))) (o :: os) i = cntW P (fun k => Nat.blt k (i + 1 + m)) os (i + 1) + 1 := by
            intro m
            simp only [cntW, hw, Bool.true_and]
            rw [blt_true (show i < i + (m + 1) by omega), show i + (m + 1) = i + 1 + m by omega]
            exact Nat.add_comm _ _
          refine ⟨by simp [e1], fun m o' ho => ?_, ?_, ?_⟩
          · cases m with
            | zero =>
              simp only [List.getElem?_cons_zero, Option.some.injEq] at ho
              subst ho
              exact ⟨v, H, H', by rw [hs0]; rfl, by rw [hc0]; rfl, by rw [hs0]; exact h1, fun _ => by rw [hc0]; rfl⟩
            | succ m =>
              obtain ⟨v', M, M', q⟩ := e2 m o' (by simpa using ho)
              exact ⟨v', M, M', by rw [hsl]; simpa using q.at_, by rw [hc]; simpa using q.heap, by rw [hsl]; exact q.run, fun hx => by rw [hc]; simpa using q.next hx⟩
          · simp only [slots]; exact e3
          · simp only [cntW, hw, Bool.and_self]
            rw [show 1 + cntW P (fun _ => true) os (i + 1) = cntW P (fun _ => true) os (i + 1) + 1 by omega]
            simpa using e4
        | false =>
          simp only [hw, Option.some.injEq, Prod.mk.injEq] at h
          obtain ⟨rfl, rfl, rfl, rfl⟩ := h
          obtain rfl := exOne_keeps hw h1
          have hc : ∀ m, cntW P (fun k => Nat.blt k (i + (m + 1))) (o :: os) i = cntW P (fun k => Nat.blt k (i + 1 + m)) os (i + 1) := by
            intro m
            simp only [cntW, hw, Bool.false_and]
            rw [show i + (m + 1) = i + 1 + m by omega]
            exact Nat.zero_add _
          refine ⟨by simp [e1], fun m o' ho => ?_, ?_, ?_⟩
          · cases m with
            | zero =>
              simp only [List.getElem?_cons_zero, Option.some.injEq] at ho
              subst ho
              exact ⟨v, _, _, by rw [hs0]; rfl, by rw [hc0]; rfl, by rw [hs0]; exact h1, fun hx => by rw [hw] at hx; cases hx⟩
            | succ m =>
              obtain ⟨v', M, M', q⟩ := e2 m o' (by simpa using ho)
              exact ⟨v', M, M', by rw [hsl]; simpa using q.at_, by rw [hc]; simpa using q.heap, by rw [hsl]; exact q.run, fun hx => by rw [hc]; simpa using q.next hx⟩
          · simp only [slots]; exact e3
          · simp only [cntW, hw, Bool.false_and]
            simpa using e4

end Go.Vm

namespace Go.Vm
open Go.RowKit
set_option linter.unusedSimpArgs false
set_option linter.unusedVariables false
variable {P : Program} {N : Nat} {W0 : World} {L : Lay} {H : Heap} {w : World}

theorem order_at {ops : List Oper} {ms : List Nat} (h : orderOK P ops ms = true) {i : Nat} {oi : Oper} (hi : ops[i]? = some oi) :
    (∀ e ∈ oi.after.toList, Region.binds .any e = true → e.on < i) ∧ ∀ j oj, j < i → ops[j]? = some oj → (confA ops oi oj = true ∨ (isW P oi.op = true ∧ isW P oj.op = true)) → (ms.getD i 0).testBit j = true := by
  unfold orderOK at h
  rw [List.all_eq_true] at h
  have hlt : i < ops.length := (List.getElem?_eq_some_iff.1 hi).1
  have h1 := h i (List.mem_range.2 hlt)
  unfold orderAt at h1
  simp only [hi, Bool.and_eq_true, List.all_eq_true, List.mem_range] at h1
  refine ⟨fun e he hb => ?_, fun j oj hj ho hc => ?_⟩
  · have := h1.1 e he
    simp [Nat.blt, Nat.ble_eq, hb] at this
    omega
  · have := h1.2 j hj
    simp only [ho] at this
    rcases hc with hc | ⟨hc, hd⟩
    · simpa [hc] using this
    · simpa [hc, hd] using this

/-- What may come next: it has not come up, and all that it waits for has. -/
structure NextOf (ops : List Oper) (X : Nat → Bool) (i : Nat) (oi : Oper) : Prop where
  closed : Closed ops X
  get : ops[i]? = some oi
  not : X i = false
  after : ∀ e ∈ oi.after.toList, Region.binds .any e = true → X e.on = true

theorem NextOf.closed' {ops : List Oper} {X : Nat → Bool} {i : Nat} {oi : Oper} (h : NextOf ops X i oi) : Closed ops (fun k => X k || Nat.beq k i) := by
  intro k o hk hX e he hb
  simp only [Bool.or_eq_true] at hX ⊢
  rcases hX with hX | hX
  · exact .inl (h.closed k o hk hX e he hb)
  · have := Nat.eq_of_beq_eq_true hX
    subst this
    rw [h.get] at hk
    simp only [Option.some.injEq] at hk
    subst hk
    exact .inl (h.after e he hb)

theorem NextOf.ahead {ops : List Oper} {X : Nat → Bool} {i : Nat} {oi : Oper} (h : NextOf ops X i oi) {j : Nat} (hb : ((preOf ops).getD i 0).testBit j = true) (hj : j ≠ i) : X j = true := by
  have := preOf_sound h.closed' hb (by simp)
  simp only [Bool.or_eq_true] at this
  rcases this with h1 | h1
  · exact h1
  · exact absurd (Nat.eq_of_beq_eq_true h1) hj

theorem NextOf.behind {ops : List Oper} {X : Nat → Bool} {i : Nat} {oi : Oper} (h : NextOf ops X i oi) {j : Nat} (hb : ((preOf ops).getD j 0).testBit i = true) : X j = false := by
  cases hj : X j with
  | false => rfl
  | true =>
    have := preOf_sound h.closed hb hj
    rw [h.not] at this; cases this

theorem side {ops : List Oper} (ho : orderOK P ops (preOf ops) = true) {X : Nat → Bool} {i : Nat} {oi : Oper} (h : NextOf ops X i oi) {k : Nat} {ok : Oper} (hk : ops[k]? = some ok)
    (hc : (confA ops oi ok = true ∧ confA ops ok oi = true) ∨ (isW P oi.op = true ∧ isW P ok.op = true)) : X k = Nat.blt k i := by
  rcases Nat.lt_trichotomy k i with h1 | h1 | h1
  · rw [blt_true h1]
    refine h.ahead ((order_at ho h.get).2 k ok h1 hk ?_) (by omega)
    rcases hc with hc | hc
    · exact .inl hc.1
    · exact .inr hc
  · subst h1; rw [h.not, blt_false (Nat.le_refl k)]
  · rw [blt_false (by omega)]
    refine h.behind ((order_at ho hk).2 i oi h1 h.get ?_)
    rcases hc with hc | hc
    · exact .inl hc.2
    · exact .inr ⟨hc.2, hc.1⟩

theorem text_next {ops : List Oper} (ho : orderOK P ops (preOf ops) = true) {i : Nat} {oi : Oper} (hi : ops[i]? = some oi) : NextOf ops (fun k => Nat.blt k i) i oi := by
  refine ⟨fun k o hk hX e he hb => ?_, hi, blt_false (Nat.le_refl i), fun e he hb => blt_true ((order_at ho hi).1 e he hb)⟩
  have := (order_at ho hk).1 e he hb
  simp [Nat.blt, Nat.ble_eq] at hX
  exact blt_true (by omega)

theorem NextOf.lo {ops : List Oper} {X : Nat → Bool} {i : Nat} {oi : Oper} (h : NextOf ops X i oi) : loW P ops (preOf ops) i ≤ cntW P X ops 0 :=
  cntW_mono ops 0 fun k o hk hw hp => by
    simp only [Nat.zero_add, Bool.and_eq_true, Bool.not_eq_true'] at hp ⊢
    exact h.ahead hp.2 (Nat.ne_of_beq_eq_false hp.1)
theorem NextOf.hi {ops : List Oper} {X : Nat → Bool} {i : Nat} {oi : Oper} (h : NextOf ops X i oi) : cntW P X ops 0 ≤ hiW P ops (preOf ops) i :=
  cntW_mono ops 0 fun k o hk hw hp => by
    simp only [Nat.zero_add, Bool.and_eq_true, Bool.not_eq_true'] at hp ⊢
    refine ⟨?_, ?_⟩
    · cases hb : Nat.beq k i with
      | false => rfl
      | true => have := Nat.eq_of_beq_eq_true hb; subst this; rw [h.not] at hp; cases hp
    · cases hb : ((preOf ops).getD k 0).testBit i with
      | false => rfl
      | true => rw [h.behind hb] at hp; cases hp

theorem conf_of {ops : List Oper} {x y : Oper} {s : Nat} (h1 : s ∈ namesA ops x) (h2 : y.dst = some s) : confA ops x y = true ∧ confA ops y x = true := by
  unfold confA
  have : (namesA ops x).contains s = true := by simpa using h1
  constructor
  · rw [h2]; simp only [this, Bool.or_true]
  · rw [h2]; simp only [this, Bool.true_or]

theorem slots_same {ops : List Oper} (ho : orderOK P ops (preOf ops) = true) {X : Nat → Bool} {i : Nat} {oi : Oper} (h : NextOf ops X i oi) (tr : List (List Value × Value)) (t : List Value) {s : Nat} (hs : s ∈ namesA ops oi) :
    (slots X ops tr 0 t)[s]? = (slots (fun k => Nat.blt k (0 + i)) ops tr 0 t)[s]? := by
  rw [Nat.zero_add]
  refine slots_at ops tr 0 t t (fun k o hk hd => ?_) rfl rfl
  rw [Nat.zero_add]
  exact side ho h hk (.inl (conf_of hs hd))

theorem stableIn_spec {call : CallA} {ops : List Oper} {o : Oper} {t : List Value} {v : Value} : ∀ {Hs : List Heap}, stableIn P call ops o t v Hs = true → ∀ H ∈ Hs, ∃ H', exOne P call ops o t H = some (v, H')
  | [], _, _, h => by simp at h
  | H :: Hs, h, K, hK => by
    simp only [stableIn] at h
    split at h
    · rename_i u H' he
      split at h
      · rename_i huv hd
        rcases List.mem_cons.1 hK with rfl | hK
        · exact ⟨H', huv ▸ he⟩
        · exact stableIn_spec h K hK
      · cases h
    · cases h

theorem stableAll_spec {call : CallA} {ops : List Oper} {ms : List Nat} {Ms : List Heap} : ∀ {os : List Oper} {tr : List (List Value × Value)} {i : Nat}, stableAll P call ops Ms (planFrom P ops ms os i) os tr = true → 
    ∀ m o t v, os[m]? = some o → tr[m]? = some (t, v) → isW P o.op = false → loW P ops ms (i + m) ≠ hiW P ops ms (i + m) →
    ∀ M ∈ (Ms.drop (loW P ops ms (i + m))).take (hiW P ops ms (i + m) - loW P ops ms (i + m) + 1), ∃ H', exOne P call ops o t M = some (v, H')
  | [], _, _, _, m, o, t, v, h, _, _, _ => by simp at h
  | _ :: _, [], _, _, m, o, t, v, _, h, _, _ => by simp at h
  | o0 :: os, (t0, v0) :: tr, i, h, 0, o, t, v, ho, ht, hw, hn => by
    simp only [List.getElem?_cons_zero, Option.some.injEq] at ho ht
    subst ho
    obtain ⟨rfl, rfl⟩ := Prod.mk.injEq .. ▸ ht
    simp only [Nat.add_zero] at hn ⊢
    simp only [planFrom, hw] at h
    have hb : Nat.beq (loW P ops ms i) (hiW P ops ms i) = false := by
      cases hb : Nat.beq (loW P ops ms i) (hiW P ops ms i) with
      | false => rfl
      | true => exact absurd (Nat.eq_of_beq_eq_true hb) hn
    simp only [hb, stableAll, Bool.and_eq_true] at h
    exact stableIn_spec h.1
  | o0 :: os, (t0, v0) :: tr, i, h, m + 1, o, t, v, ho, ht, hw, hn => by
    have h' : stableAll P call ops Ms (planFrom P ops ms os (i + 1)) os tr = true := by
      simp only [planFrom] at h
      split at h
      · exact h
      · split at h
        · exact h
        · simp only [stableAll, Bool.and_eq_true] at h; exact h.2
    have := stableAll_spec h' m o t v (by simpa using ho) (by simpa using ht) hw
    rw [show i + 1 + m = i + (m + 1) by omega] at this
    exact this hn

/-- The step of an operation that may come next, whatever has come up. -/
theorem step_next {call : CallA} {ops : List Oper} (ho : orderOK P ops (preOf ops) = true) {t : List Value} {H : Heap} {tr : List (List Value × Value)} {hs : List Heap} {t' : List Value} {H2 : Heap}
    (he : exText P call ops ops t H = some (tr, hs, t', H2)) (hst : stableAll P call ops (H :: hs) (planFrom P ops (preOf ops) ops 0) ops tr = true)
    {X : Nat → Bool} {i : Nat} {oi : Oper} (h : NextOf ops X i oi) {M : Heap} (hM : (H :: hs)[cntW P X ops 0]? = some M) :
    ∃ v M', exOne P call ops oi (slots X ops tr 0 t) M = some (v, M') ∧ slots (fun k => X k || Nat.beq k i) ops tr 0 t = putA (slots X ops tr 0 t) oi.dst v ∧
      (H :: hs)[cntW P (fun k => X k || Nat.beq k i) ops 0]? = some M' := by
  obtain ⟨e1, e2, e3, e4⟩ := text_at he 0
  obtain ⟨v, M1, M1', q⟩ := e2 i oi h.get
  have hcong : ∀ K, exOne P call ops oi (slots X ops tr 0 t) K = exOne P call ops oi (slots (fun k => Nat.blt k (0 + i)) ops tr 0 t) K := fun K => exOne_congr fun s hs => slots_same ho h tr t hs
  have hadd := slots_add ops tr 0 t i (by omega) h.get h.not q.at_ (fun k o hk hlt hp d hd hod => by
    have h1 : d ∈ namesA ops oi := List.mem_append_left _ (List.mem_append_left _ (by simp [hd]))
    have := side ho h hk (.inl (conf_of h1 hod))
    rw [Nat.zero_add] at hp hlt
    rw [hp, blt_false (by omega)] at this
    cases this)
  have hcnt := cntW_add (P := P) (p := X) ops 0 i (by omega) h.get h.not
  have hqh := q.heap
  have hqn := q.next
  rw [Nat.zero_add] at hqh hqn
  cases hw : isW P oi.op with
  | true =>
    have hc : cntW P X ops 0 = cntW P (fun k => Nat.blt k i) ops 0 := cntW_ext ops 0 fun k o hk hwk => by
      rw [Nat.zero_add]
      exact side ho h hk (.inr ⟨hw, hwk⟩)
    rw [hc, hqh] at hM
    simp only [Option.some.injEq] at hM
    subst hM
    refine ⟨v, M1', by rw [hcong]; exact q.run, hadd, ?_⟩
    rw [hcnt, hw, hc]
    exact hqn hw
  | false =>
    have hT := text_next ho h.get
    have b1 := h.lo (P := P)
    have b2 := h.hi (P := P)
    have b3 := hT.lo (P := P)
    have b4 := hT.hi (P := P)
    have hrun : ∃ K, exOne P call ops oi (slots X ops tr 0 t) M = some (v, K) := by
      by_cases hlh : loW P ops (preOf ops) i = hiW P ops (preOf ops) i
      · have hc : cntW P X ops 0 = cntW P (fun k => Nat.blt k i) ops 0 := by omega
        rw [hc, hqh] at hM
        simp only [Option.some.injEq] at hM
        subst hM
        exact ⟨M1', by rw [hcong]; exact q.run⟩
      · have := stableAll_spec hst i oi _ v h.get q.at_ hw (by rwa [Nat.zero_add]) M (by
          rw [Nat.zero_add]
          refine List.mem_of_getElem? (i := cntW P X ops 0 - loW P ops (preOf ops) i) ?_
          rw [List.getElem?_take_of_lt (by omega), List.getElem?_drop, ← hM]
          congr 1
          omega)
        obtain ⟨K, hK⟩ := this
        exact ⟨K, by rw [hcong]; exact hK⟩
    obtain ⟨K, hK⟩ := hrun
    obtain rfl := exOne_keeps hw hK
    refine ⟨v, _, hK, hadd, ?_⟩
    rw [hcnt, hw]
    exact hM

end Go.Vm

namespace Go.Vm
open Go.RowKit
set_option linter.unusedSimpArgs false
set_option linter.unusedVariables false
variable {P : Program} {N : Nat} {W0 : World} {L : Lay} {H : Heap} {w : World}

theorem all_listed {ops : Array Oper} {listed : Array Bool} (hsz : listed.size = ops.size) (ho : orderOK P ops.toList (preOf ops.toList) = true) (hr : Region.ready .any ops listed = []) :
    ∀ n j, j ≤ n → j < ops.size → listed.getD j false = true := by
  intro n
  induction n with
  | zero =>
    intro j hj hlt
    have : j = 0 := by omega
    subst this
    cases hb : listed.getD 0 false with
    | true => rfl
    | false =>
      exfalso
      have hm : 0 ∈ Region.ready .any ops listed := by
        rw [mem_ready]
        have hg : ops[0]? = some ops[0] := Array.getElem?_eq_getElem hlt
        refine ⟨?_, ops[0], hg, fun e he hb' => ?_⟩
        · rw [Array.getD_eq_getD_getElem?, Array.getElem?_eq_getElem (by omega)] at hb ⊢; exact hb
        · have := (order_at ho (i := 0) (oi := ops[0]) (by rw [Array.getElem?_toList]; exact hg)).1 e (Array.mem_toList_iff.2 he) hb'
          omega
      rw [hr] at hm; cases hm
  | succ n ih =>
    intro j hj hlt
    rcases Nat.lt_or_ge j (n + 1) with h1 | h1
    · exact ih j (by omega) hlt
    · have : j = n + 1 := by omega
      subst this
      cases hb : listed.getD (n + 1) false with
      | true => rfl
      | false =>
        exfalso
        have hm : n + 1 ∈ Region.ready .any ops listed := by
          rw [mem_ready]
          have hg : ops[n + 1]? = some ops[n + 1] := Array.getElem?_eq_getElem hlt
          refine ⟨?_, ops[n + 1], hg, fun e he hb' => ?_⟩
          · rw [Array.getD_eq_getD_getElem?, Array.getElem?_eq_getElem (by omega)] at hb ⊢; exact hb
          · have := (order_at ho (i := n + 1) (oi := ops[n + 1]) (by rw [Array.getElem?_toList]; exact hg)).1 e (Array.mem_toList_iff.2 he) hb'
            exact ih e.on (by omega) (by omega)
        rw [hr] at hm; cases hm

def leftOf (n : Nat) (listed : Array Bool) : Nat := (List.range n).countP fun j => !listed.getD j false

theorem leftOf_set {n : Nat} {listed : Array Bool} {i : Nat} (hi : i < n) (hs : i < listed.size) (hf : listed.getD i false = false) : leftOf n (listed.setIfInBounds i true) < leftOf n listed := by
  have hle : ∀ j, (!(listed.setIfInBounds i true).getD j false) = true → (!listed.getD j false) = true := by
    intro j hj
    by_cases e : i = j
    · subst e; simp [hf]
    · rwa [getD_set_ne false e] at hj
  have key : ∀ m, (List.range m).countP (fun j => !(listed.setIfInBounds i true).getD j false) + (if i < m then 1 else 0) ≤ (List.range m).countP (fun j => !listed.getD j false) := by
    intro m
    induction m with
    | zero => simp
    | succ m ih =>
      rw [List.range_succ, List.countP_append, List.countP_append, List.countP_singleton, List.countP_singleton]
      by_cases e : i = m
      · subst e
        have h1 : (!(listed.setIfInBounds i true).getD i false) = false := by
          rw [Array.getD_eq_getD_getElem?, Array.getElem?_setIfInBounds_self_of_lt hs]; rfl
        rw [h1, hf]
        simp at ih ⊢
        omega
      · have h2 : (listed.setIfInBounds i true).getD m false = listed.getD m false := getD_set_ne false e
        rw [h2]
        have : (i < m + 1) = (i < m) := by
          apply propext; omega
        simp only [this]
        omega
  have := key n
  rw [if_pos hi] at this
  unfold leftOf
  omega

theorem draw_any {call : CallA} (hc : CallOK P N W0 call) {ops : Array Oper} (ho : orderOK P ops.toList (preOf ops.toList) = true) {t : List Value} {H : Heap} {tr : List (List Value × Value)} {hs : List Heap} {t' : List Value} {H2 : Heap}
    (he : exText P call ops.toList ops.toList t H = some (tr, hs, t', H2)) (hst : stableAll P call ops.toList (H :: hs) (planFrom P ops.toList (preOf ops.toList) ops.toList 0) ops.toList tr = true)
    (ds : List (FuncId × List Value)) (Q : Exit → Act → World → Prop) {L0 : Lay} (hQ : ∀ x a w, EndR N W0 L0 .normal ⟨t', ds⟩ H2 x a w → Q x a w) :
    ∀ (fuel : Nat) (listed : Array Bool) (L : Lay) (M : Heap) (a : Act) (w : World), leftOf ops.size listed ≤ fuel → listed.size = ops.size → Closed ops.toList (fun j => listed.getD j false) →
      L0.le L → (H :: hs)[cntW P (fun j => listed.getD j false) ops.toList 0]? = some M → Stands N W0 L ⟨slots (fun j => listed.getD j false) ops.toList tr 0 t, ds⟩ M a w →
      wpAny P .any ops Q fuel listed a w := by
  obtain ⟨e1, e2, e3, e4⟩ := text_at he 0
  have hdone : ∀ (listed : Array Bool) (L : Lay) (M : Heap) (a : Act) (w : World), listed.size = ops.size → L0.le L → (H :: hs)[cntW P (fun j => listed.getD j false) ops.toList 0]? = some M →
      Stands N W0 L ⟨slots (fun j => listed.getD j false) ops.toList tr 0 t, ds⟩ M a w → Region.ready .any ops listed = [] → Q .normal a w := by
    intro listed L M a w hsz hl hM hS hr
    have hall := all_listed hsz ho hr ops.size
    have h1 : slots (fun j => listed.getD j false) ops.toList tr 0 t = t' := by
      rw [e3]
      exact slots_ext _ _ _ _ fun k h1 h2 => hall k (by simp at h2; omega) (by simpa using h2)
    have h2 : cntW P (fun j => listed.getD j false) ops.toList 0 = cntW P (fun _ => true) ops.toList 0 := cntW_ext _ _ fun k o hk hw => by
      rw [Nat.zero_add]
      have : k < ops.size := by simpa using (List.getElem?_eq_some_iff.1 hk).1
      exact hall k (by omega) this
    rw [h2, e4] at hM
    simp only [Option.some.injEq] at hM
    subst hM
    rw [h1] at hS
    exact hQ _ _ _ ⟨L, hl, hS, trivial⟩
  intro fuel
  induction fuel with
  | zero =>
    intro listed L M a w hf hsz hcl hl hM hS
    have hr : Region.ready .any ops listed = [] := by
      cases hrr : Region.ready .any ops listed with
      | nil => rfl
      | cons i rest =>
        exfalso
        have hm : i ∈ Region.ready .any ops listed := by rw [hrr]; simp
        obtain ⟨h1, o, h2, _⟩ := mem_ready.1 hm
        have hlt : i < ops.size := (Array.getElem?_eq_some_iff.1 h2).1
        have h3 : listed.getD i false = false := by
          rw [Array.getD_eq_getD_getElem?, Array.getElem?_eq_getElem (by omega)] at h1 ⊢; exact h1
        have := leftOf_set hlt (by omega) h3
        omega
    exact ⟨hr, hdone listed L M a w hsz hl hM hS hr⟩
  | succ fuel ih =>
    intro listed L M a w hf hsz hcl hl hM hS
    refine ⟨hdone listed L M a w hsz hl hM hS, fun i hi => ?_⟩
    obtain ⟨h1, o, h2, h4⟩ := mem_ready.1 hi
    have hlt : i < ops.size := (Array.getElem?_eq_some_iff.1 h2).1
    have h3 : listed.getD i false = false := by
      rw [Array.getD_eq_getD_getElem?, Array.getElem?_eq_getElem (by omega)] at h1 ⊢; exact h1
    have hnext : NextOf ops.toList (fun j => listed.getD j false) i o := ⟨hcl, by rw [Array.getElem?_toList]; exact h2, h3, fun e he hb => h4 e (Array.mem_toList_iff.1 he) hb⟩
    obtain ⟨v, M', k1, k2, k3⟩ := step_next ho he hst hnext hM
    have hX : ∀ j, (listed.setIfInBounds i true).getD j false = (listed.getD j false || Nat.beq j i) := by
      intro j
      by_cases e : i = j
      · subst e
        rw [Array.getD_eq_getD_getElem?, Array.getElem?_setIfInBounds_self_of_lt (by omega), Nat.beq_refl, Bool.or_true]
        rfl
      · rw [getD_set_ne false e]
        have : Nat.beq j i = false := by
          cases hb : Nat.beq j i with
          | false => rfl
          | true => exact absurd (Nat.eq_of_beq_eq_true hb).symm e
        rw [this, Bool.or_false]
    have hXf : (fun j => (listed.setIfInBounds i true).getD j false) = fun j => listed.getD j false || Nat.beq j i := funext hX
    have hf' := leftOf_set hlt (by omega) h3
    have go : ∀ (L' : Lay) (a' : Act) (w' : World), L.le L' → Stands N W0 L' ⟨putA (slots (fun j => listed.getD j false) ops.toList tr 0 t) o.dst v, ds⟩ M' a' w' →
        wpAny P .any ops Q fuel (listed.setIfInBounds i true) a' w' := by
      intro L' a' w' hl' hS'
      refine ih (listed.setIfInBounds i true) L' M' a' w' (by omega) (by simpa using hsz) ?_ (Lay.le_trans hl hl') ?_ ?_
      · rw [hXf]; exact hnext.closed'
      · rw [hXf]; exact k3
      · rw [hXf, k2]; exact hS'
    unfold wpOp
    simp only [h2]
    rw [wanted_run hS.tmps o]
    unfold exOne at k1
    split at k1
    · rename_i hw
      simp only [Option.some.injEq, Prod.mk.injEq] at k1
      obtain ⟨rfl, rfl⟩ := k1
      simp only [hw, Bool.false_eq_true, if_false]
      exact go L _ w (Lay.le_refl L) (hS.put (Lay.le_refl L) hS.sim o.dst (vr_undef L))
    · rename_i hw
      simp only [hw, if_true]
      split at k1
      · rename_i v' H1 hex
        simp only [Option.some.injEq, Prod.mk.injEq] at k1
        obtain ⟨rfl, rfl⟩ := k1
        refine .inl (op_run hc hS.sim hex hS.tmps ?_)
        intro L' u w' hl' S hv
        exact go L' _ w' hl' (hS.put hl' S o.dst hv)
      · cases k1

theorem draw_run (hm : P.follows .mixedOrders = true) {call : CallA} (hc : CallOK P N W0 call) : DrawOK P N W0 (exDraw P call) := by
  intro id ops s H e s' H' h L a w hs
  unfold exDraw planOf at h
  split at h
  · cases h
  · rename_i pl hpl
    split at hpl
    · rename_i ho
      simp only [Option.some.injEq] at hpl
      subst hpl
      split at h
      · cases h
      · rename_i tr hs1 t' H2 he
        split at h
        · rename_i hst
          simp only [Option.some.injEq, Prod.mk.injEq] at h
          obtain ⟨rfl, rfl, rfl⟩ := h
          refine wp_region_any hm ?_
          have hf : ∀ j, (Array.replicate ops.size false).getD j false = false := by
            intro j
            rw [Array.getD_eq_getD_getElem?, Array.getElem?_replicate]
            split <;> rfl
          have hfun : (fun j => (Array.replicate ops.size false).getD j false) = fun _ => false := funext hf
          refine draw_any hc ho he hst s.ds _ (L0 := L) (fun x a w h => h) ops.size _ L H a _ ?_ (by simp) ?_ (Lay.le_refl L) ?_ ?_
          · unfold leftOf
            have := List.countP_le_length (p := fun j => !(Array.replicate ops.size false).getD j false) (l := List.range ops.size)
            simpa using this
          · intro i o _ hX
            have hX2 : (Array.replicate ops.size false).getD i false = true := hX
            rw [hf] at hX2; cases hX2
          · rw [hfun, cntW_none _ _ fun _ _ => rfl]; rfl
          · rw [hfun, slots_none _ _ _ _ fun _ _ => rfl]
            exact ⟨hs.sim.drew, hs.tmps, hs.defers⟩
        · cases h
    · cases hpl

theorem runs_sound (hm : P.follows .mixedOrders = true) {E : Hooks} (hE : CallOK P N W0 E.run) (n : Nat) : CallOK P N W0 (runs P E n).call :=
  (runs_ok hE (fun _ hc => draw_run hm hc) n).call

def noHooks : Hooks := ⟨fun _ => false, fun _ _ _ => none⟩
theorem noHooks_ok : CallOK P N W0 noHooks.run := fun _ _ _ _ _ h => by simp [noHooks] at h

end Go.Vm
