/- What is proved: rules by which a run is walked: what is asked behind a piece of code is asked of the piece; no theorem of the program. -/
import Derived.Test.YtifbhohifhnkiaaVmM
namespace Go.Vm
open Go.RowKit
set_option linter.unusedSimpArgs false
set_option linter.unusedVariables false
variable {P : Program} {E : Hooks}

/-! ### What is asked behind a piece -/
abbrev QA := ExA → St → Heap → Prop
def bindQ (k : St → Heap → ResA) (Q : QA) (_ : Held k) : QA := fun e s H => match e with
  | .normal => Ends (k s H) Q
  | e => Q e s H
def blockQ (id : Nat) (Q : QA) : QA := fun e s H => match e with
  | .exit i => if i = id then Q .normal s H else Q (.exit i) s H
  | e => Q e s H
def stepQ (s : St) (k : Value → Heap → ResA) (Q : QA) (_ : Held k) : Out → Heap → Prop := fun o H => match o with
  | .val v => Ends (k v H) Q
  | .pan v => Q (.pan v) s H
def resQ (Q : Out → Heap → Prop) (H : Heap) : Option (List Value) → Prop
  | some l => Q (.val (tupleOf l)) H
  | none => False
def bodyQ (P : Program) (E : Hooks) (r : Runs) (rs : List ResultVar) (Q : Out → Heap → Prop) : QA := fun e s H =>
  match exLeave P E r s.ds H with
  | some H2 => match e with
    | .pan v => Q (.pan v) H2
    | .normal | .ret => resQ Q H2 (exResults P rs s.t H2)
    | _ => False
  | none => False

@[simp] theorem bindQ_normal (k : St → Heap → ResA) (Q : QA) (h : Held k) (s : St) (H : Heap) : bindQ k Q h .normal s H = Ends (k s H) Q := id rfl
@[simp] theorem bindQ_exit (k : St → Heap → ResA) (Q : QA) (h : Held k) (i : Nat) (s : St) (H : Heap) : bindQ k Q h (.exit i) s H = Q (.exit i) s H := id rfl
@[simp] theorem bindQ_goto (k : St → Heap → ResA) (Q : QA) (h : Held k) (i : Nat) (s : St) (H : Heap) : bindQ k Q h (.goto i) s H = Q (.goto i) s H := id rfl
@[simp] theorem bindQ_ret (k : St → Heap → ResA) (Q : QA) (h : Held k) (s : St) (H : Heap) : bindQ k Q h .ret s H = Q .ret s H := id rfl
@[simp] theorem bindQ_pan (k : St → Heap → ResA) (Q : QA) (h : Held k) (v : Value) (s : St) (H : Heap) : bindQ k Q h (.pan v) s H = Q (.pan v) s H := id rfl
@[simp] theorem blockQ_exit (id : Nat) (Q : QA) (i : Nat) (s : St) (H : Heap) : blockQ id Q (.exit i) s H = if i = id then Q .normal s H else Q (.exit i) s H := _root_.id rfl
@[simp] theorem blockQ_normal (id : Nat) (Q : QA) (s : St) (H : Heap) : blockQ id Q .normal s H = Q .normal s H := _root_.id rfl
@[simp] theorem blockQ_goto (id : Nat) (Q : QA) (i : Nat) (s : St) (H : Heap) : blockQ id Q (.goto i) s H = Q (.goto i) s H := _root_.id rfl
@[simp] theorem blockQ_ret (id : Nat) (Q : QA) (s : St) (H : Heap) : blockQ id Q .ret s H = Q .ret s H := _root_.id rfl
@[simp] theorem blockQ_pan (id : Nat) (Q : QA) (v : Value) (s : St) (H : Heap) : blockQ id Q (.pan v) s H = Q (.pan v) s H := _root_.id rfl
@[simp] theorem stepQ_val (s : St) (k : Value → Heap → ResA) (Q : QA) (h : Held k) (v : Value) (H : Heap) : stepQ s k Q h (.val v) H = Ends (k v H) Q := id rfl
@[simp] theorem stepQ_pan (s : St) (k : Value → Heap → ResA) (Q : QA) (h : Held k) (v : Value) (H : Heap) : stepQ s k Q h (.pan v) H = Q (.pan v) s H := id rfl
@[simp] theorem resQ_some (Q : Out → Heap → Prop) (H : Heap) (l : List Value) : resQ Q H (some l) = Q (.val (tupleOf l)) H := id rfl
@[simp] theorem bodyQ_ret (r : Runs) (rs : List ResultVar) (Q : Out → Heap → Prop) (t : List Value) (H : Heap) : bodyQ P E r rs Q .ret ⟨t, []⟩ H = resQ Q H (exResults P rs t H) := id rfl
@[simp] theorem bodyQ_normal (r : Runs) (rs : List ResultVar) (Q : Out → Heap → Prop) (t : List Value) (H : Heap) : bodyQ P E r rs Q .normal ⟨t, []⟩ H = resQ Q H (exResults P rs t H) := id rfl
@[simp] theorem bodyQ_pan (r : Runs) (rs : List ResultVar) (Q : Out → Heap → Prop) (v : Value) (t : List Value) (H : Heap) : bodyQ P E r rs Q (.pan v) ⟨t, []⟩ H = Q (.pan v) H := id rfl

theorem Ends_none {Q : QA} : ¬ Ends none Q := fun ⟨_, _, _, h, _⟩ => by cases h
theorem Gives_none {Q : Out → Heap → Prop} : ¬ Gives none Q := fun ⟨_, _, h, _⟩ => by cases h
@[simp] theorem ends_then (r : ResA) (k : St → Heap → ResA) (h : Held k) (Q : QA) : Ends (thenA r k h) Q = Ends r (bindQ k Q h) := by
  refine propext ?_
  cases r with
  | none => exact ⟨fun h => (Ends_none h).elim, fun h => (Ends_none h).elim⟩
  | some p =>
    obtain ⟨e, s, H⟩ := p
    rw [Ends_some]
    cases e with
    | normal => exact Iff.rfl
    | _ => exact Ends_some _ _ _ _
@[simp] theorem ends_block (id : Nat) (r : ResA) (Q : QA) : Ends (blockA id r) Q = Ends r (blockQ id Q) := by
  refine propext ?_
  cases r with
  | none => exact ⟨fun h => (Ends_none h).elim, fun h => (Ends_none h).elim⟩
  | some p =>
    obtain ⟨e, s, H⟩ := p
    rw [Ends_some]
    cases e with
    | exit i =>
      rw [blockQ_exit, blockA_exit]
      split <;> exact Ends_some _ _ _ _
    | _ => exact Ends_some _ _ _ _
@[simp] theorem ends_step (r : Option (Out × Heap)) (s : St) (k : Value → Heap → ResA) (h : Held k) (Q : QA) : Ends (stepO r s k h) Q = Gives r (stepQ s k Q h) := by
  refine propext ?_
  cases r with
  | none => exact ⟨fun h => (Ends_none h).elim, fun h => (Gives_none h).elim⟩
  | some p =>
    obtain ⟨o, H⟩ := p
    rw [Gives_some]
    cases o with
    | val v => exact Iff.rfl
    | pan v => exact Ends_some _ _ _ _
@[simp] theorem gives_body (r : Runs) (rs : List ResultVar) (x : ResA) (Q : Out → Heap → Prop) : Gives (bodyA P E r rs x) Q = Ends x (bodyQ P E r rs Q) := by
  refine propext ?_
  cases x with
  | none => exact ⟨fun h => (Gives_none h).elim, fun h => (Ends_none h).elim⟩
  | some p =>
    obtain ⟨e, s, H⟩ := p
    rw [Ends_some]
    unfold bodyA bodyQ
    simp only []
    cases exLeave P E r s.ds H with
    | none => exact ⟨fun h => (Gives_none h).elim, fun h => h.elim⟩
    | some H2 =>
      simp only []
      cases e with
      | pan v => exact Gives_some _ _ _
      | normal => cases exResults P rs s.t H2 with
        | none => exact ⟨fun h => (Gives_none h).elim, fun h => h.elim⟩
        | some l => exact Gives_some _ _ _
      | ret => cases exResults P rs s.t H2 with
        | none => exact ⟨fun h => (Gives_none h).elim, fun h => h.elim⟩
        | some l => exact Gives_some _ _ _
      | _ => exact ⟨fun h => (Gives_none h).elim, fun h => h.elim⟩

/-- Two ways. -/
theorem ends_cond {b : Bool} {x y : ResA} {hx : Held x} {hy : Held y} {Q : QA} (h1 : b = true → Ends x Q) (h2 : b = false → Ends y Q) : Ends (condA (some (.bool b)) x y hx hy) Q := by
  cases b
  · exact h2 rfl
  · exact h1 rfl
/-- A region whose order is drawn, in the order of the text. -/
theorem ends_only {r : ResA} {Q : QA} (h : Ends r fun e s H => e = .normal ∧ Q .normal s H) : Ends (onlyNormal r) Q := by
  obtain ⟨e, s, H, rfl, rfl, h2⟩ := h
  exact ⟨_, _, _, rfl, h2⟩

/-! ### Loops -/
def AllRd (t t0 : List Value) : List Nat → Prop
  | [] => True
  | k :: ks => rd t k = rd t0 k ∧ AllRd t t0 ks
@[simp] theorem AllRd_nil (t t0 : List Value) : AllRd t t0 [] = True := id rfl
@[simp] theorem AllRd_cons (t t0 : List Value) (k : Nat) (ks : List Nat) : AllRd t t0 (k :: ks) = (rd t k = rd t0 k ∧ AllRd t t0 ks) := id rfl
theorem Kept.all {ds : List Nat} {t0 t : List Value} (h : Kept ds t0 t) : ∀ (ks : List Nat), (ks.all fun k => !ds.elem k) = true → AllRd t t0 ks
  | [], _ => trivial
  | k :: ks, hk => by
    simp only [List.all_cons, Bool.and_eq_true, Bool.not_eq_true'] at hk
    exact ⟨h.2 k (by intro hm; have := List.elem_iff.2 hm; rw [hk.1] at this; cases this), h.all ks hk.2⟩

/-- What is asked behind one round. -/
def roundQ (ds : List Nat) (t0 : List Value) (I : Nat → List Value → Heap → Prop) (m : Nat) (Q : QA) : QA := fun e s H => match e with
  | .normal => s.ds = [] ∧ ∃ m', m' < m ∧ I m' s.t H
  | e => Q e s H
section
variable (ds : List Nat) (t0 : List Value) (I : Nat → List Value → Heap → Prop) (m : Nat) (Q : QA)
@[simp] theorem roundQ_normal (s : St) (H : Heap) : roundQ ds t0 I m Q .normal s H = (s.ds = [] ∧ ∃ m', m' < m ∧ I m' s.t H) := id rfl
@[simp] theorem roundQ_exit (i : Nat) (s : St) (H : Heap) : roundQ ds t0 I m Q (.exit i) s H = Q (.exit i) s H := id rfl
@[simp] theorem roundQ_goto (i : Nat) (s : St) (H : Heap) : roundQ ds t0 I m Q (.goto i) s H = Q (.goto i) s H := id rfl
@[simp] theorem roundQ_ret (s : St) (H : Heap) : roundQ ds t0 I m Q .ret s H = Q .ret s H := id rfl
@[simp] theorem roundQ_pan (v : Value) (s : St) (H : Heap) : roundQ ds t0 I m Q (.pan v) s H = Q (.pan v) s H := id rfl
end

theorem loop_wp {c : Code} {t0 : List Value} {H0 : Heap} {Q : QA} (I : Nat → List Value → Heap → Prop) (m0 : Nat) (h0 : I m0 t0 H0)
    (step : ∀ m t H, Kept (dstsOf c) t0 t → I m t H → Ends ((run P E).code c ⟨Fr t [], []⟩ H) (roundQ (dstsOf c) t0 I m Q)) : Ends ((run P E).code (.loop c) ⟨t0, []⟩ H0) Q := by
  refine loop_ends (fun m t H => Kept (dstsOf c) t0 t ∧ I m t H) ?_ m0 t0 H0 ⟨Kept.refl _ _, h0⟩
  rintro m t H ⟨hk, hI⟩
  obtain ⟨e, s, H', h1, h2⟩ := step m t H hk hI
  rw [Fr_nil] at h1
  refine ⟨e, s, H', h1, ?_⟩
  cases e with
  | normal => rw [roundQ_normal] at h2; obtain ⟨h3, m', h4, h5⟩ := h2; exact .inl ⟨rfl, h3, m', h4, hk.trans (kept_run h1), h5⟩
  | _ => exact .inr ⟨(fun h => by cases h), h2⟩

/-- The same of a loop within a scope (a goto that leads back). -/
theorem Gives.and {r : Option (Out × Heap)} {Q Q' : Out → Heap → Prop} (h : Gives r Q) (h' : Gives r Q') : Gives r fun o H => Q o H ∧ Q' o H := by
  obtain ⟨o, H, h1, h2⟩ := h
  obtain ⟨o', H', h3, h4⟩ := h'
  rw [h1] at h3
  simp only [Option.some.injEq, Prod.mk.injEq] at h3
  obtain ⟨rfl, rfl⟩ := h3
  exact ⟨o, H, h1, h2, h4⟩
theorem Gives.eq {r : Option (Out × Heap)} {o : Out} {H : Heap} (h : r = some (o, H)) {Q : Out → Heap → Prop} (q : Q o H) : Gives r Q := ⟨o, H, h, q⟩
theorem Gives.val {r : Option (Out × Heap)} {v : Value} {Q : Heap → Prop} (h : Gives r fun o H => o = .val v ∧ Q H) : ∃ H', r = some (.val v, H') ∧ Q H' := by
  obtain ⟨o, H, h1, rfl, h2⟩ := h
  exact ⟨H, h1, h2⟩
theorem Ends.after {r : ResA} {Q Q' : QA} (h : Ends r Q) (k : ∀ e s H, r = some (e, s, H) → Q e s H → Q' e s H) : Ends r Q' := by
  obtain ⟨e, s, H, h1, h2⟩ := h
  exact ⟨e, s, H, h1, k e s H h1 h2⟩
end Go.Vm
