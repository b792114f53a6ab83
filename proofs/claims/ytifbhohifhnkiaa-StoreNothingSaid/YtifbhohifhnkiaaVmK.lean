/- What is proved: summaries of functions that touch no memory that was there, and the model's call of a function from the machine's run; no theorem of the program. -/
import Derived.Test.YtifbhohifhnkiaaVmJ
namespace Go.Vm
open Go.RowKit
set_option linter.unusedSimpArgs false
set_option linter.unusedVariables false
variable {P : Program} {N : Nat} {W0 : World} {L : Lay} {H : Heap} {w : World}

theorem Sim.later {w' : World} (S : Sim N W0 L H w) (h : Below w.heap.size w w') : Sim N W0 L H w' where
  below := S.below.trans (h.mono S.base)
  base := Nat.le_trans S.base h.size
  fresh := S.fresh
  obj id := (S.obj id).world h.block
  apart := S.apart

theorem Heap.get_empty (i : Nat) : Heap.empty.get i = .dead := Heap.get_of_ge (Nat.zero_le _)

theorem sim_empty (w : World) : Sim w.heap.size w (fun _ => none) Heap.empty w where
  below := Below.refl _ _
  base := Nat.le_refl _
  fresh := fun _ _ => rfl
  obj id := by rw [Heap.get_empty]; trivial
  apart i j b k _ h := by rw [Heap.get_empty] at h; exact h.elim

theorem CallsX.mono {f : FuncId} {args : Array Value} {R R' : Ending → World → Prop} (h : CallsX P f args w R) (hr : ∀ e w', R e w' → R' e w') : CallsX P f args w R' := by
  rcases h with ⟨fn, h1, h2, h3, h4⟩ | ⟨v, w', h1, h2⟩
  · exact .inl ⟨fn, h1, h2, h3, h4.mono hr⟩
  · exact .inr ⟨v, w', h1, hr _ _ h2⟩

/-- Functions of which it is known what they give, if no address is in what they take. -/
def pureHooks (g : FuncId → List Value → Option Value) : Hooks :=
  ⟨fun f => (g f []).isSome, fun f args H => match g f args with
    | some v => match groundL args && ground v with | true => some (.val v, H) | false => none
    | none => none⟩

theorem pureHooks_ok (hm : P.follows .mixedOrders = true) {E : Hooks} (hE : ∀ N W0, CallOK P N W0 E.run) {g : FuncId → List Value → Option Value}
    (h : ∀ f args v, g f args = some v → groundL args = true → ground v = true → ∃ H', (run P E).call f args Heap.empty = some (.val v, H')) (N : Nat) (W0 : World) : CallOK P N W0 (pureHooks g).run := by
  intro f args H out H' hr L w args' S ha
  simp only [pureHooks] at hr
  split at hr
  · rename_i v hg
    split at hr
    · rename_i hgr
      rw [Bool.and_eq_true] at hgr
      simp only [Option.some.injEq, Prod.mk.injEq] at hr
      obtain ⟨rfl, rfl⟩ := hr
      obtain ⟨H', hrun⟩ := h f args v hg hgr.1 hgr.2
      have e := ha.ground_eq hgr.1
      subst e
      refine (run_sound hm (hE w.heap.size w) f args' Heap.empty _ H' hrun _ w args' (sim_empty w) (groundL_LR _ _ hgr.1)).mono fun e w' hx => ?_
      obtain ⟨L', l1, l2, l3⟩ := hx
      refine ⟨L, Lay.le_refl L, S.later l2.below, ?_⟩
      cases e with
      | returned v' =>
        have l4 : VR L' v v' := l3
        have := l4.ground_eq hgr.2
        subst this
        exact ground_VR L _ hgr.2
      | _ => exact l3.elim
    · cases hr
  · cases hr

def isTrueOut : Option (Out × Heap) → Bool
  | some (.val (.bool b), _) => b
  | _ => false
@[simp] theorem isTrueOut_val (b : Bool) (H : Heap) : isTrueOut (some (.val (.bool b), H)) = b := id rfl
theorem isTrueOut_some {r : Option (Out × Heap)} (h : isTrueOut r = true) : ∃ H', r = some (.val (.bool true), H') := by
  unfold isTrueOut at h
  split at h
  · subst h; exact ⟨_, rfl⟩
  · cases h

/-- The model's call of a function that hands back a value without an address. -/
theorem calls_of_run (hm : P.follows .mixedOrders = true) {E : Hooks} {f : FuncId} {fn : Func} {c : Code} (hf : P.funcs[f]? = some fn) (hb : fn.body = some c) {args args' : List Value} {v : Value} {H' : Heap}
    (h : (run P E).call f args H = some (.val v, H')) (hv : ground v = true) (hE : CallOK P w.heap.size w E.run) (S : Sim w.heap.size w L H w) (ha : LR L args args') :
    Calls P f ⟨args'⟩ w fun e w' => e = .returned v ∧ Below w.heap.size w w' := by
  rcases run_sound hm hE f args H _ H' h L w args' S ha with ⟨fn', h1, h2, h3, h4⟩ | ⟨v', w', h1, h2⟩
  · refine h4.mono fun e w' hx => ?_
    obtain ⟨L', l1, l2, l3⟩ := hx
    refine ⟨?_, l2.below⟩
    cases e with
    | returned v' =>
      have l4 : VR L' v v' := l3
      rw [l4.ground_eq hv]
    | _ => exact l3.elim
  · exfalso
    unfold callFunc at h1
    simp only [Sem.run_bind, run_program, Result.andThen_ok, hf] at h1
    by_cases hn : (fn.name == "runtime.NumGoroutine") = true
    · rw [if_pos hn] at h1
      cases h1
    · rw [if_neg hn, if_neg (by rw [hb]; simp)] at h1
      cases h1

end Go.Vm
