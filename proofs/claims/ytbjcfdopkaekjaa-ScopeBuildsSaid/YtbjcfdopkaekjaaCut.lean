/- What is proved: rules that cut a walk in two; no theorem of the program. -/
import Derived.Test.YtbjcfdopkaekjaaVmN
namespace Go.Vm
open Go.RowKit
set_option linter.unusedSimpArgs false
set_option linter.unusedVariables false
variable {P : Program} {E : Hooks}
/-- What holds behind a piece, whichever way it went. -/
theorem ends_cut {r : ResA} {k : St → Heap → ResA} {Q : QA} {hk : Held k} (J : List Value → Heap → Prop) (h1 : Ends r fun e s H => e = .normal ∧ s.ds = [] ∧ J s.t H)
    (h2 : ∀ t H, J t H → Ends (k ⟨Fr t [], []⟩ H) Q) : Ends r (bindQ k Q hk) := by
  obtain ⟨e, ⟨t, ds⟩, H, e1, rfl, e2, hJ⟩ := h1
  simp only at e2
  subst e2
  have := h2 t H hJ
  rw [Fr_nil] at this
  exact ⟨_, _, H, e1, this⟩
/-- What holds behind a piece, or the frame was left in it. -/
def cutQ (J : List Value → Heap → Prop) (Q : QA) : QA := fun e s H => match e with
  | .normal => s.ds = [] ∧ J s.t H
  | .ret => Q .ret s H
  | _ => False
@[simp] theorem cutQ_normal (J : List Value → Heap → Prop) (Q : QA) (s : St) (H : Heap) : cutQ J Q .normal s H = (s.ds = [] ∧ J s.t H) := id rfl
@[simp] theorem cutQ_ret (J : List Value → Heap → Prop) (Q : QA) (s : St) (H : Heap) : cutQ J Q .ret s H = Q .ret s H := id rfl
theorem ends_cut2 {r : ResA} {k : St → Heap → ResA} {Q : QA} {hk : Held k} (J : List Value → Heap → Prop) (h1 : Ends r (cutQ J Q)) (h2 : ∀ t H, J t H → Ends (k ⟨Fr t [], []⟩ H) Q) : Ends r (bindQ k Q hk) := by
  obtain ⟨e, ⟨t, ds⟩, H, e1, hJ⟩ := h1
  cases e with
  | normal =>
    rw [cutQ_normal] at hJ
    obtain ⟨e2, hJ⟩ := hJ
    simp only at e2
    subst e2
    have := h2 t H hJ
    rw [Fr_nil] at this
    exact ⟨_, _, H, e1, this⟩
  | ret => exact ⟨_, _, H, e1, by rw [bindQ_ret]; exact hJ⟩
  | _ => exact hJ.elim
/-- What holds behind a loop, whichever way it was left. -/
theorem loop_mid {c : Code} {t0 : List Value} {H0 : Heap} {i : Nat} {k : St → Heap → ResA} {Q : QA} {hk : Held k} (J : List Value → Heap → Prop) (I : Nat → List Value → Heap → Prop) (m0 : Nat) (h0 : I m0 t0 H0)
    (step : ∀ m t H, Kept (dstsOf c) t0 t → I m t H → Ends ((run P E).code c ⟨Fr t [], []⟩ H) (roundQ (dstsOf c) t0 I m fun e s H => e = .exit i ∧ s.ds = [] ∧ J s.t H))
    (after : ∀ t H, Kept (dstsOf c) t0 t → J t H → Ends (k ⟨Fr t [], []⟩ H) Q) : Ends ((run P E).code (.loop c) ⟨t0, []⟩ H0) (blockQ i (bindQ k Q hk)) := by
  refine loop_ends (fun m t H => Kept (dstsOf c) t0 t ∧ I m t H) ?_ m0 t0 H0 ⟨Kept.refl _ _, h0⟩
  rintro m t H ⟨hk, hI⟩
  obtain ⟨e, s, H', h1, h2⟩ := step m t H hk hI
  rw [Fr_nil] at h1
  refine ⟨e, s, H', h1, ?_⟩
  have key : (e = .exit i ∧ s.ds = [] ∧ J s.t H') → blockQ i (bindQ k Q ‹_›) e s H' := by
    rintro ⟨rfl, h3, h4⟩
    obtain ⟨t', ds⟩ := s
    simp only at h3
    subst h3
    rw [blockQ_exit, if_pos rfl, bindQ_normal]
    have := after t' H' (hk.trans (kept_run h1)) h4
    rwa [Fr_nil] at this
  cases e with
  | normal => rw [roundQ_normal] at h2; obtain ⟨h3, m', h4, h5⟩ := h2; exact .inl ⟨rfl, h3, m', h4, hk.trans (kept_run h1), h5⟩
  | exit j => rw [roundQ_exit] at h2; exact .inr ⟨(fun h => by cases h), key h2⟩
  | goto j => rw [roundQ_goto] at h2; exact absurd h2.1 (by simp)
  | ret => rw [roundQ_ret] at h2; exact absurd h2.1 (by simp)
  | pan v => rw [roundQ_pan] at h2; exact absurd h2.1 (by simp)
/-- What is asked behind a loop that may leave the function. -/
def midQ (i : Nat) (J : List Value → Heap → Prop) (Q : QA) : QA := fun e s H => match e with
  | .exit j => j = i ∧ s.ds = [] ∧ J s.t H
  | .ret => Q .ret s H
  | _ => False
@[simp] theorem midQ_exit (i : Nat) (J : List Value → Heap → Prop) (Q : QA) (j : Nat) (s : St) (H : Heap) : midQ i J Q (.exit j) s H = (j = i ∧ s.ds = [] ∧ J s.t H) := id rfl
@[simp] theorem midQ_ret (i : Nat) (J : List Value → Heap → Prop) (Q : QA) (s : St) (H : Heap) : midQ i J Q .ret s H = Q .ret s H := id rfl
theorem loop_mid2 {c : Code} {t0 : List Value} {H0 : Heap} {i : Nat} {k : St → Heap → ResA} {Q : QA} {hk : Held k} (J : List Value → Heap → Prop) (I : Nat → List Value → Heap → Prop) (m0 : Nat) (h0 : I m0 t0 H0)
    (step : ∀ m t H, Kept (dstsOf c) t0 t → I m t H → Ends ((run P E).code c ⟨Fr t [], []⟩ H) (roundQ (dstsOf c) t0 I m (midQ i J Q)))
    (after : ∀ t H, Kept (dstsOf c) t0 t → J t H → Ends (k ⟨Fr t [], []⟩ H) Q) : Ends ((run P E).code (.loop c) ⟨t0, []⟩ H0) (blockQ i (bindQ k Q hk)) := by
  refine loop_ends (fun m t H => Kept (dstsOf c) t0 t ∧ I m t H) ?_ m0 t0 H0 ⟨Kept.refl _ _, h0⟩
  rintro m t H ⟨hk, hI⟩
  obtain ⟨e, s, H', h1, h2⟩ := step m t H hk hI
  rw [Fr_nil] at h1
  refine ⟨e, s, H', h1, ?_⟩
  cases e with
  | normal => rw [roundQ_normal] at h2; obtain ⟨h3, m', h4, h5⟩ := h2; exact .inl ⟨rfl, h3, m', h4, hk.trans (kept_run h1), h5⟩
  | exit j =>
    rw [roundQ_exit, midQ_exit] at h2
    refine .inr ⟨(fun h => by cases h), ?_⟩
    obtain ⟨rfl, h3, h4⟩ := h2
    obtain ⟨t', ds⟩ := s
    simp only at h3
    subst h3
    rw [blockQ_exit, if_pos rfl, bindQ_normal]
    have := after t' H' (hk.trans (kept_run h1)) h4
    rwa [Fr_nil] at this
  | goto j => rw [roundQ_goto] at h2; exact h2.elim
  | ret => rw [roundQ_ret, midQ_ret] at h2; exact .inr ⟨(fun h => by cases h), by rw [blockQ_ret, bindQ_ret]; exact h2⟩
  | pan v => rw [roundQ_pan] at h2; exact h2.elim
end Go.Vm
