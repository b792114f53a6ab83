/- What is proved: what a run of the abstract machine gives, the model's run gives; no theorem of the program. -/
import Derived.Test.YtbjcfdopkaekjaaVmD
namespace Go.Vm
open Go.RowKit
set_option linter.unusedSimpArgs false
set_option linter.unusedVariables false
variable {P : Program} {N : Th} {W0 : World} {L : Lay} {H : Heap} {w : World}

theorem evA_run {t : List Value} {x : Operand} {v : Value} {a : Act} (h : evA t x = some v) (ht : LR L t a.tmps.toList) : VR L v (a.eval x) := by
  cases x with
  | tmp k =>
    simp only [evA, Option.some.injEq] at h; subst h
    have h2 := ht.getD k (vr_undef L)
    have e1 : a.tmps.getD k undef = a.tmps.toList.getD k undef := by rw [Array.getD_eq_getD_getElem?, List.getD_eq_getElem?_getD, Array.getElem?_toList]
    simp only [Act.eval, e1]
    exact h2
  | const c =>
    simp only [evA] at h
    split at h
    · rename_i hg; simp only [Option.some.injEq] at h; subst h; exact ground_VR L _ hg
    · cases h
  | global g => simp [evA] at h
  | func f =>
    simp only [evA, Option.some.injEq] at h; subst h
    exact .func _ [] [] [] [] rfl rfl (fun i h => by simp at h) (fun i h => by simp at h)

theorem evL_run {t : List Value} {a : Act} (ht : LR L t a.tmps.toList) : ∀ {xs : List Operand} {vs : List Value}, evL t xs = some vs → LR L vs (xs.map a.eval)
  | [], vs, h => by simp only [evL, Option.some.injEq] at h; subst h; exact LR.nil L
  | x :: xs, vs, h => by
    simp only [evL] at h
    split at h
    · rename_i v vs' e1 e2
      simp only [Option.some.injEq] at h; subst h
      exact (evL_run ht e2).cons (evA_run e1 ht)
    · cases h

theorem evO_run {t : List Value} {a : Act} (ht : LR L t a.tmps.toList) {x : Option Operand} {v : Option Value} (h : evO t x = some v) : OR L v (x.map a.eval) := by
  cases x with
  | none => simp only [evO, Option.some.injEq] at h; subst h; trivial
  | some x =>
    simp only [evO, Option.map_eq_some_iff] at h
    obtain ⟨u, h, rfl⟩ := h
    exact evA_run h ht

theorem evP_run {t : List Value} {a : Act} (ht : LR L t a.tmps.toList) : ∀ {xs : List (Nat × Operand)} {vs : List (Nat × Value)}, evP t xs = some vs → PR L vs (xs.map fun p => (p.1, a.eval p.2))
  | [], vs, h => by simp only [evP, Option.some.injEq] at h; subst h; exact PR.nil
  | (i, x) :: xs, vs, h => by
    simp only [evP] at h
    split at h
    · rename_i v vs' e1 e2
      simp only [Option.some.injEq] at h; subst h
      exact PR.cons (evA_run e1 ht) (evP_run ht e2)
    · cases h

/-- What a call comes to, and what the model's call comes to. -/
def OutRel (L : Lay) : Out → Ending → Prop
  | .val v, .returned v' => VR L v v'
  | .pan v, .panicked ch => ∃ v', ch = [{ v := v', recovered := false }] ∧ VR L v v'
  | _, _ => False

/-- A call, of a function with a body or without. -/
def CallsX (P : Program) (f : FuncId) (args : Array Value) (w : World) (R : Ending → World → Prop) : Prop :=
  (∃ fn, P.funcs[f]? = some fn ∧ (fn.name == "runtime.NumGoroutine") = false ∧ fn.body.isNone = false ∧ Calls P f args w R) ∨
  (∃ v w', (callFunc f args).run P w = .ok (.value v) w' ∧ R (.returned v) w')

def CallOK (P : Program) (N : Th) (W0 : World) (call : CallA) : Prop :=
  ∀ f args H out H', call f args H = some (out, H') → ∀ L w args', Sim N W0 L H w → LR L args args' →
    CallsX P f ⟨args'⟩ w fun e w' => ∃ L', L.le L' ∧ Sim N W0 L' H' w' ∧ OutRel L' out e

theorem CallsX.upon {f : FuncId} {args : Array Value} {R : Ending → World → Prop} (h : CallsX P f args w R) (o : Oper) (a : Act) (next : Act → World → Prop) (Q : Exit → Act → World → Prop)
    (hv : ∀ v w', R (.returned v) w' → next (a.put o.dst v) w') (hp : ∀ ch w', R (.panicked ch) w' → Q (.panic ch) a w') (ho : ∀ w', ¬ R .outgrown w') :
    o.upon P a next Q ((callFunc f args).run P w) := by
  rcases h with ⟨fn, h1, h2, h3, h4⟩ | ⟨v, w', h1, h2⟩
  · have : (callFunc f args).run P w = .ok (.enter f args) w := by
      unfold callFunc
      simp only [Sem.run_bind, run_program, Result.andThen_ok, h1]
      rw [if_neg (by rw [h2]; simp), if_neg (by rw [h3]; simp)]
      rfl
    rw [this, Oper.upon_enter]
    refine h4.mono fun e w' hr => ?_
    cases e with
    | returned v => exact hv v w' hr
    | panicked ch => exact hp ch w' hr
    | outgrown => exact absurd hr (ho w')
  · rw [h1, Oper.upon_value]
    exact hv v w' h2

/-- The rest of the run, from whatever the model has come to. -/
def Goes (N : Th) (W0 : World) (L : Lay) (H' : Heap) (out : Out) (o : Oper) (a : Act) (next : Act → World → Prop) (Q : Exit → Act → World → Prop) : Prop :=
  match out with
  | .val v => ∀ L' v' w', L.le L' → Sim N W0 L' H' w' → VR L' v v' → next (a.put o.dst v') w'
  | .pan v => ∀ L' v' w', L.le L' → Sim N W0 L' H' w' → VR L' v v' → Q (.panic [{ v := v', recovered := false }]) a w'

theorem wp_val {o : Oper} {a : Act} {next : Act → World → Prop} {Q : Exit → Act → World → Prop} {s : Sem Value} {L' : Lay} {w' : World} {v v' : Value} {H' : Heap}
    (he : execOp a.eval o = (do pure (.value (← s)))) (hr : s.run P w = .ok v' w') (hl : L.le L') (S : Sim N W0 L' H' w') (hv : VR L' v v') (g : Goes N W0 L H' (.val v) o a next Q) : o.wp P a w next Q := by
  unfold Oper.wp
  rw [he]
  simp only [Sem.run_bind, hr, Result.andThen_ok, Sem.run_pure, Oper.upon_value]
  exact g L' v' w' hl S hv

theorem wp_skip' {o : Oper} {a : Act} {next : Act → World → Prop} {Q : Exit → Act → World → Prop} {s : Sem Unit} {L' : Lay} {w' : World} {H' : Heap}
    (he : execOp a.eval o = (do s; pure .skip)) (hr : s.run P w = .ok () w') (hl : L.le L') (S : Sim N W0 L' H' w') (g : Goes N W0 L H' (.val undef) o a next Q) : o.wp P a w next Q := by
  unfold Oper.wp
  rw [he]
  simp only [Sem.run_bind, hr, Result.andThen_ok, Sem.run_pure, Oper.upon_skip]
  exact g L' undef w' hl S (vr_undef L')

end Go.Vm

namespace Go.Vm
open Go.RowKit
set_option linter.unusedSimpArgs false
set_option linter.unusedVariables false
variable {P : Program} {N : Th} {W0 : World} {L : Lay} {H : Heap} {w : World}

theorem val1_some {r : Option Value} {H H' : Heap} {out : Out} (h : val1 r H = some (out, H')) : ∃ v, r = some v ∧ out = .val v ∧ H' = H := by
  simp only [val1, Option.map_eq_some_iff, Prod.mk.injEq] at h
  obtain ⟨v, h1, h2, h3⟩ := h
  exact ⟨v, h1, h2.symm, h3.symm⟩
theorem val2_some {r : Option (Value × Heap)} {H' : Heap} {out : Out} (h : val2 r = some (out, H')) : ∃ v, r = some (v, H') ∧ out = .val v := by
  simp only [val2, Option.map_eq_some_iff, Prod.mk.injEq] at h
  obtain ⟨⟨v, H2⟩, h1, h2, h3⟩ := h
  simp only at h2 h3
  subst h3
  exact ⟨v, h1, h2.symm⟩
theorem skip1_some {r : Option Heap} {H' : Heap} {out : Out} (h : skip1 r = some (out, H')) : r = some H' ∧ out = .val undef := by
  simp only [skip1, Option.map_eq_some_iff, Prod.mk.injEq] at h
  obtain ⟨H2, h1, h2, h3⟩ := h
  subst h3
  exact ⟨h1, h2.symm⟩

theorem builtin_run {b : Builtin} {ts : List TypeId} {ty : TypeId} {args args' : List Value} {cs : Array Bool} {out : Out} {H' : Heap} (S : Sim N W0 L H w) (h : exBuiltin P b ts args H = some (out, H')) (ha : LR L args args') :
    ∃ L' w' v v', (builtin b ⟨ts⟩ ty cs ⟨args'⟩).run P w = .ok (.value v') w' ∧ out = .val v ∧ L.le L' ∧ Sim N W0 L' H' w' ∧ VR L' v v' := by
  unfold exBuiltin at h
  split at h
  · rename_i s x
    obtain ⟨s', y', rfl, h1, h2⟩ := ha.cases_cons
    obtain ⟨x', z', rfl, h3, h4⟩ := h2.cases_cons
    have := h4.cases_nil
    subst this
    obtain ⟨v, e1, rfl⟩ := val2_some h
    obtain ⟨L', w', v', r1, r2, r3, r4⟩ := append_run (P := P) (ty := ty) S e1 h1 h3
    exact ⟨L', w', v, v', by simp [builtin, r1], rfl, r2, r3, r4⟩
  · rename_i d x
    obtain ⟨s', y', rfl, h1, h2⟩ := ha.cases_cons
    obtain ⟨x', z', rfl, h3, h4⟩ := h2.cases_cons
    have := h4.cases_nil
    subst this
    obtain ⟨v, e1, rfl⟩ := val2_some h
    obtain ⟨w', r1, r2, r3⟩ := copy_run (P := P) (ty := ty) S e1 h1 h3
    exact ⟨L, w', v, v, by simp [builtin, r1], rfl, Lay.le_refl L, r2, ground_VR L v r3⟩
  · rename_i x
    obtain ⟨s', y', rfl, h1, h2⟩ := ha.cases_cons
    have := h2.cases_nil
    subst this
    simp only [Option.map_eq_some_iff, Prod.mk.injEq] at h
    obtain ⟨H2, e1, rfl, rfl⟩ := h
    obtain ⟨w', r1, r2⟩ := clear_run (P := P) (ty := ty) S e1 h1
    exact ⟨L, w', _, .tuple #[], by simp [builtin, r1], rfl, Lay.le_refl L, r2, vr_undef L⟩
  · rename_i x
    obtain ⟨s', y', rfl, h1, h2⟩ := ha.cases_cons
    have := h2.cases_nil
    subst this
    obtain ⟨v, e1, rfl, rfl⟩ := val1_some h
    obtain ⟨r1, r2⟩ := len_run (P := P) (ty := ty) S e1 h1
    exact ⟨L, w, v, v, by simp [builtin, r1], rfl, Lay.le_refl L, S, ground_VR L v r2⟩
  · rename_i x
    obtain ⟨s', y', rfl, h1, h2⟩ := ha.cases_cons
    have := h2.cases_nil
    subst this
    obtain ⟨v, e1, rfl, rfl⟩ := val1_some h
    obtain ⟨r1, r2⟩ := cap_run (P := P) (ty := ty) S e1 h1
    exact ⟨L, w, v, v, by simp [builtin, r1], rfl, Lay.le_refl L, S, ground_VR L v r2⟩
  · split at h
    · rename_i hg
      obtain ⟨v, e1, rfl, rfl⟩ := val1_some h
      obtain ⟨e2, e3⟩ := ifGround_some e1
      have := ha.ground_eq hg
      subst this
      have r : (Builtin.min_ ⟨ts⟩ ty ⟨args'⟩).run P w = .ok v w := pureRun_run P _ _ e2 w
      exact ⟨L, w, v, v, by simp [builtin, r], rfl, Lay.le_refl L, S, ground_VR L v e3⟩
    · cases h
  · split at h
    · rename_i hg
      obtain ⟨v, e1, rfl, rfl⟩ := val1_some h
      obtain ⟨e2, e3⟩ := ifGround_some e1
      have := ha.ground_eq hg
      subst this
      have r : (Builtin.max_ ⟨ts⟩ ty ⟨args'⟩).run P w = .ok v w := pureRun_run P _ _ e2 w
      exact ⟨L, w, v, v, by simp [builtin, r], rfl, Lay.le_refl L, S, ground_VR L v e3⟩
    · cases h
  · cases h

theorem goes_val {out : Out} {v : Value} {H' : Heap} {o : Oper} {a : Act} {next : Act → World → Prop} {Q : Exit → Act → World → Prop} (e : out = .val v) (g : Goes N W0 L H' out o a next Q) : Goes N W0 L H' (.val v) o a next Q := by
  subst e; exact g

/-- A method that is found: its receiver is the value itself. -/
theorem method_run {t : TypeId} {name : String} {f : FuncId} (h : exMethod P t name = some f) (v : Value) (w : World) : (method (P.types.size + Made.depth) t v name).run P w = .ok (f, v) w := by
  unfold exMethod at h
  split at h
  · rename_i i hi
    split at h
    · rename_i m hm
      have h9 : 0 < Made.depth := by decide
      have hd : ∃ k, P.types.size + Made.depth = k + 1 := ⟨P.types.size + Made.depth - 1, by omega⟩
      obtain ⟨k, hk⟩ := hd
      rw [hk]
      have hti : ∀ w, (typeInfo t).run P w = .ok i w := fun w => by simp only [typeInfo, Sem.run_bind, run_program, Result.andThen_ok, hi, Sem.run_pure]
      split at h
      · rename_i f' e hp hf hu
        simp only [Option.some.injEq] at h
        subst h
        simp only [method, Sem.run_bind, hti, Result.andThen_ok, hm, hp, follow, Sem.run_pure, hf, receiverAt, run_underlying hu, Place.get]
      · cases h
      · rename_i f' d hnp hp hf hu
        simp only [Option.some.injEq] at h
        subst h
        simp only [method, Sem.run_bind, hti, Result.andThen_ok, hm, hp, follow, Sem.run_pure, hf, receiverAt, run_underlying hu]
        cases d <;> first | exact absurd rfl (hnp _) | simp [Place.get]
      · cases h
    · cases h
  · cases h

/-- A call, as the model resolves it. -/
theorem call_run {call : CallA} (hc : CallOK P N W0 call) {c : Call} {t : List Value} {out : Out} {H' : Heap} (S : Sim N W0 L H w) (h : exCallOp P call c t H = some (out, H')) {a : Act} (ht : LR L t a.tmps.toList)
    {o : Oper} (ho : o.op = .call c) {next : Act → World → Prop} {Q : Exit → Act → World → Prop} (g : Goes N W0 L H' out o a next Q) : o.wp P a w next Q := by
  unfold exCallOp at h
  cases hargs : evL t c.args.toList with
  | none => simp [hargs] at h
  | some args =>
    simp only [hargs] at h
    have hal := evL_run ht hargs
    have hmap : c.args.map a.eval = ⟨c.args.toList.map a.eval⟩ := by
      apply Array.ext'; simp
    split at h
    · -- a builtin
      rename_i b hb
      obtain ⟨L', w', v, v', r1, rfl, r2, r3, r4⟩ := builtin_run (P := P) (ty := o.type) (cs := c.args.map fun | .const _ => true | _ => false) S h hal
      have he : (execOp a.eval o).run P w = .ok (.value v') w' := by
        simp only [execOp, ho, resolve, hb, Sem.run_bind, Sem.run_pure, Result.andThen_ok, invoke, hmap]
        exact r1
      unfold Oper.wp
      rw [he, Oper.upon_value]
      exact g L' v' w' r2 r3 r4
    · -- a function's value
      rename_i f hf
      split at h
      · rename_i gf first captured hev
        have hfv := evA_run hev ht
        obtain ⟨x⟩ := first
        obtain ⟨y⟩ := captured
        generalize hfe : a.eval f = fv at hfv
        cases hfv with
        | func _ _ x' _ y' hx hy ex ey =>
          have hl1 : LR L x x' := ⟨hx, ex⟩
          have hl2 : LR L y y' := ⟨hy, ey⟩
          have hall := (hl1.append hal).append hl2
          have hcx := hc gf _ H out H' h L w _ S hall
          have he : (execOp a.eval o).run P w = (callFunc gf ⟨x' ++ c.args.toList.map a.eval ++ y'⟩).run P w := by
            simp only [execOp, ho, resolve, hf, hfe, Deferred.ofValue, Sem.run_bind, Sem.run_pure, Result.andThen_ok, invoke, hmap]
            congr 2
            simp
          unfold Oper.wp
          rw [he]
          refine hcx.upon o a next Q ?_ ?_ ?_
          · rintro v w' ⟨L', r1, r2, r3⟩
            cases out with
            | val u => exact g L' v w' r1 r2 r3
            | pan u => exact r3.elim
          · rintro ch w' ⟨L', r1, r2, r3⟩
            cases out with
            | val u => exact r3.elim
            | pan u =>
              obtain ⟨v', rfl, r3⟩ := r3
              exact g L' v' w' r1 r2 r3
          · rintro w' ⟨L', r1, r2, r3⟩
            cases out <;> exact r3
      · cases h
    · -- a method
      rename_i r m hf
      split at h
      · rename_i t1 v1 hev
        split at h
        · rename_i gf hm
          have hfv := evA_run hev ht
          generalize hfe : a.eval r = fv at hfv
          cases hfv with
          | iface _ _ v' hv =>
            have hall : LR L (v1 :: args) (v' :: c.args.toList.map a.eval) := by
              have h1 : LR L [v1] [v'] := ⟨rfl, fun i h1 h2 => by cases i with | zero => exact hv | succ i => simp at h1⟩
              exact h1.append hal
            have hcx := hc gf _ H out H' h L w _ S hall
            have he : (execOp a.eval o).run P w = (callFunc gf ⟨v' :: c.args.toList.map a.eval⟩).run P w := by
              simp only [execOp, ho, resolve, hf, hfe, Sem.run_bind, Sem.run_pure, Result.andThen_ok, invoke, hmap]
              have h0 : (#[Value.iface t1 v'] ++ ({ toList := c.args.toList.map a.eval } : Array Value))[0]? = some (.iface t1 v') := by simp
              have h2 : (#[Value.iface t1 v'] ++ ({ toList := c.args.toList.map a.eval } : Array Value)).extract 1 (#[Value.iface t1 v'] ++ ({ toList := c.args.toList.map a.eval } : Array Value)).size = ⟨c.args.toList.map a.eval⟩ := by
                apply Array.ext'; simp; exact List.take_of_length_le (by simp)
              simp only [h0, h2, callMethod, Sem.run_bind, run_program, Result.andThen_ok, method_run hm v' w]
              congr 2
              apply Array.ext'; simp
            unfold Oper.wp
            rw [he]
            refine hcx.upon o a next Q ?_ ?_ ?_
            · rintro v w' ⟨L', r1, r2, r3⟩
              cases out with
              | val u => exact g L' v w' r1 r2 r3
              | pan u => exact r3.elim
            · rintro ch w' ⟨L', r1, r2, r3⟩
              cases out with
              | val u => exact r3.elim
              | pan u =>
                obtain ⟨v', rfl, r3⟩ := r3
                exact g L' v' w' r1 r2 r3
            · rintro w' ⟨L', r1, r2, r3⟩
              cases out <;> exact r3
        · cases h
      · cases h

theorem op_run {call : CallA} (hc : CallOK P N W0 call) {o : Oper} {t : List Value} {out : Out} {H' : Heap} (S : Sim N W0 L H w) (h : exOp P call o.op t H = some (out, H')) {a : Act} (ht : LR L t a.tmps.toList)
    {next : Act → World → Prop} {Q : Exit → Act → World → Prop} (g : Goes N W0 L H' out o a next Q) : o.wp P a w next Q := by
  unfold exOp at h
  have hlr := Lay.le_refl L
  split at h
  · -- move
    rename_i x ho
    obtain ⟨v, e1, rfl, rfl⟩ := val1_some h
    have hv := evA_run e1 ht
    have he : (execOp a.eval o).run P w = .ok (.value (a.eval x)) w := by simp only [execOp, ho, Sem.run_pure]
    unfold Oper.wp; rw [he, Oper.upon_value]; exact g L _ w hlr S hv
  · -- assign
    rename_i x ho
    obtain ⟨v, e1, rfl, rfl⟩ := val1_some h
    have hv := evA_run e1 ht
    have he : (execOp a.eval o).run P w = .ok (.value (a.eval x)) w := by simp only [execOp, ho, Sem.run_pure]
    unfold Oper.wp; rw [he, Oper.upon_value]; exact g L _ w hlr S hv
  · -- pick
    rename_i c x y ho
    split at h
    · rename_i b hb
      have hcb := evA_run hb ht
      generalize hce : a.eval c = cv at hcb
      cases hcb
      obtain ⟨v, e1, rfl, rfl⟩ := val1_some h
      have he : (execOp a.eval o).run P w = .ok (.value (if b then a.eval x else a.eval y)) w := by
        simp only [execOp, ho, hce, asBool, Sem.run_bind, Sem.run_pure, Result.andThen_ok]
      unfold Oper.wp; rw [he, Oper.upon_value]
      refine g L _ w hlr S ?_
      cases b with
      | true => exact evA_run e1 ht
      | false => exact evA_run e1 ht
    · cases h
  · -- alloc
    rename_i ty ho
    obtain ⟨v, e1, rfl⟩ := val2_some h
    obtain ⟨L', w', v', r1, r2, r3, r4⟩ := alloc_run (P := P) S e1
    exact wp_val (by simp only [execOp, ho]) r1 r2 r3 r4 g
  · -- box
    rename_i ty x ho
    split at h
    · rename_i v0 hv0
      obtain ⟨v, e1, rfl⟩ := val2_some h
      obtain ⟨L', w', v', r1, r2, r3, r4⟩ := box_run (P := P) S e1 (evA_run hv0 ht)
      exact wp_val (by simp only [execOp, ho]) r1 r2 r3 r4 g
    · cases h
  · -- build
    rename_i ty ps ho
    split at h
    · rename_i l hl
      obtain ⟨v, e1, rfl, rfl⟩ := val1_some h
      obtain ⟨v', r1, r2⟩ := build_run (P := P) e1 (evP_run ht hl) w
      have hmap : ps.map (fun p => (p.1, a.eval p.2)) = ⟨ps.toList.map fun p => (p.1, a.eval p.2)⟩ := by apply Array.ext'; simp
      exact wp_val (by simp only [execOp, ho, hmap]) r1 hlr S r2 g
    · cases h
  · -- buildSlice
    rename_i ty n ps ho
    split at h
    · rename_i l hl
      obtain ⟨v, e1, rfl⟩ := val2_some h
      obtain ⟨L', w', v', r1, r2, r3, r4⟩ := buildSlice_run (P := P) S e1 (evP_run ht hl)
      have hmap : ps.map (fun p => (p.1, a.eval p.2)) = ⟨ps.toList.map fun p => (p.1, a.eval p.2)⟩ := by apply Array.ext'; simp
      exact wp_val (by simp only [execOp, ho, hmap]) r1 r2 r3 r4 g
    · cases h
  · -- load
    rename_i ty x ho
    split at h
    · rename_i v0 hv0
      obtain ⟨v, e1, rfl, rfl⟩ := val1_some h
      obtain ⟨v', r1, r2⟩ := load_run (P := P) S e1 (evA_run hv0 ht)
      exact wp_val (by simp only [execOp, ho]) r1 hlr S r2 g
    · cases h
  · -- store
    rename_i ty x y ho
    split at h
    · rename_i v0 u0 hv0 hu0
      obtain ⟨e1, rfl⟩ := skip1_some h
      obtain ⟨w', r1, r2⟩ := store_run (P := P) S e1 (evA_run hv0 ht) (evA_run hu0 ht)
      exact wp_skip' (by simp only [execOp, ho]) r1 hlr r2 g
    · cases h
  · -- nilCheck
    rename_i x ho
    split at h
    · rename_i ad hv
      simp only [Option.some.injEq, Prod.mk.injEq] at h
      obtain ⟨rfl, rfl⟩ := h
      have hvx := evA_run hv ht
      have he : (execOp a.eval o).run P w = .ok (.value (a.eval x)) w := by
        generalize hxe : a.eval x = xv at hvx
        cases hvx
        simp only [execOp, ho, hxe, Sem.run_pure]
      unfold Oper.wp; rw [he, Oper.upon_value]; exact g L _ w hlr S hvx
    · rename_i f x1 y1 hv
      simp only [Option.some.injEq, Prod.mk.injEq] at h
      obtain ⟨rfl, rfl⟩ := h
      have hvx := evA_run hv ht
      have he : (execOp a.eval o).run P w = .ok (.value (a.eval x)) w := by
        generalize hxe : a.eval x = xv at hvx
        cases hvx
        simp only [execOp, ho, hxe, Sem.run_pure]
      unfold Oper.wp; rw [he, Oper.upon_value]; exact g L _ w hlr S hvx
    · cases h
  · -- binOp
    rename_i op ty x y yt ho
    split at h
    · rename_i v0 u0 hv0 hu0
      obtain ⟨v, e1, rfl, rfl⟩ := val1_some h
      obtain ⟨r1, r2⟩ := bin_run (P := P) e1 (evA_run hv0 ht) (evA_run hu0 ht) w
      exact wp_val (by simp only [execOp, ho]) r1 hlr S (ground_VR L v r2) g
    · cases h
  · -- unOp
    rename_i op ty x ho
    split at h
    · rename_i v0 hv0
      split at h
      · rename_i hg
        obtain ⟨v, e1, rfl, rfl⟩ := val1_some h
        obtain ⟨e2, e3⟩ := ifGround_some e1
        have hvx := (evA_run hv0 ht).ground_eq hg
        have r1 : (Op.unary op (a.eval x)).run P w = .ok v w := by rw [hvx]; exact pureRun_run P _ _ e2 w
        exact wp_val (by simp only [execOp, ho]) r1 hlr S (ground_VR L v e3) g
      · cases h
    · cases h
  · -- convert
    rename_i sr ds x ho
    split at h
    · rename_i v0 hv0
      obtain ⟨v, e1, rfl⟩ := val2_some h
      obtain ⟨L', w', v', r1, r2, r3, r4⟩ := convert_run (P := P) S e1 (evA_run hv0 ht)
      exact wp_val (by simp only [execOp, ho]) r1 r2 r3 r4 g
    · cases h
  · -- makeInterface
    rename_i ty x ho
    split at h
    · rename_i v0 hv0
      split at h
      · cases h
      · cases h
      · rename_i d hni hu
        simp only [Option.some.injEq, Prod.mk.injEq] at h
        obtain ⟨rfl, rfl⟩ := h
        have hvx := evA_run hv0 ht
        have r1 : (Instr.makeInterface ty (a.eval x)).run P w = .ok (.iface ty (a.eval x)) w := by
          simp only [Instr.makeInterface, Sem.run_bind, run_underlying hu, Result.andThen_ok]
          cases d <;> first | exact absurd rfl (hni _) | rfl
        exact wp_val (by simp only [execOp, ho]) r1 hlr S (.iface ty _ _ hvx) g
    · cases h
  · -- makeFunc
    rename_i f x y ho
    split at h
    · rename_i xs ys hxs hys
      simp only [Option.some.injEq, Prod.mk.injEq] at h
      obtain ⟨rfl, rfl⟩ := h
      have h1 := evL_run ht hxs
      have h2 := evL_run ht hys
      have hm1 : x.map a.eval = ⟨x.toList.map a.eval⟩ := by apply Array.ext'; simp
      have hm2 : y.map a.eval = ⟨y.toList.map a.eval⟩ := by apply Array.ext'; simp
      have r1 : (Instr.makeFunc (.func f) (x.map a.eval) (y.map a.eval)).run P w = .ok (.func (.func f) ⟨x.toList.map a.eval⟩ ⟨y.toList.map a.eval⟩) w := by
        rw [hm1, hm2]; rfl
      exact wp_val (by simp only [execOp, ho]) r1 hlr S (.func _ _ _ _ _ h1.1 h2.1 h1.2 h2.2) g
    · cases h
  · -- makeMap
    rename_i ty ho
    simp only [Option.some.injEq, Prod.mk.injEq] at h
    obtain ⟨rfl, rfl⟩ := h
    have S' := (S.alloc (.map #[] 0) trivial).put (.map []) (w.heap.size, 0, 0) ⟨S.new, #[], 0, alloc_heap_new w _, rfl, fun i h => by simp at h⟩ (fun j b k q1 q2 => by
      have := (Owns.lt (S.obj j) q2).2
      have : b = w.heap.size := q1
      omega)
    have r1 : (Instr.makeMap ty none).run P w = .ok (.map (some w.heap.size)) (w.alloc (.map #[] 0)) := by
      simp only [Instr.makeMap, Sem.run_bind, Sem.run_pure, Result.andThen_ok, run_newObj, World.alloc_eq]
    exact wp_val (by simp only [execOp, ho, Option.map_none]) r1 (upd_le (S.fresh _ (Nat.le_refl _))) S' (.map _ _ _ _ (upd_same _ _ _)) g
  · -- makeSlice
    rename_i ty x y ho
    split at h
    · rename_i v0 u0 hv0 hu0
      obtain ⟨v, e1, rfl⟩ := val2_some h
      obtain ⟨L', w', v', r1, r2, r3, r4⟩ := makeSlice_run (P := P) S e1 (evA_run hv0 ht) (evA_run hu0 ht)
      exact wp_val (by simp only [execOp, ho]) r1 r2 r3 r4 g
    · cases h
  · -- slice
    rename_i ty x lo hi mx ho
    split at h
    · rename_i v0 l0 h0 m0 hv0 hl0 hh0 hm0
      obtain ⟨v, e1, rfl⟩ := val2_some h
      obtain ⟨L', w', v', r1, r2, r3, r4⟩ := slice_run (P := P) S e1 (evA_run hv0 ht) (evO_run ht hl0) (evO_run ht hh0) (evO_run ht hm0)
      exact wp_val (by simp only [execOp, ho]) r1 r2 r3 r4 g
    · cases h
  · -- fieldAddr
    rename_i s x f ho
    split at h
    · rename_i v0 hv0
      obtain ⟨v, e1, rfl, rfl⟩ := val1_some h
      obtain ⟨v', r1, r2⟩ := field_run (P := P) S e1 (evA_run hv0 ht)
      exact wp_val (by simp only [execOp, ho]) r1 hlr S r2 g
    · cases h
  · -- field
    rename_i ty x f ho
    split at h
    · rename_i cs fields hv0 hu
      split at h
      · rename_i fl hf
        obtain ⟨v, e1, rfl, rfl⟩ := val1_some h
        have hvx := evA_run hv0 ht
        generalize hxe : a.eval x = xv at hvx
        cases hvx with
        | agg xs xs' hx ex eo =>
          obtain ⟨v', r1, r2⟩ := part_run (P := P) e1 ⟨hx, ex⟩ eo w
          have r3 : (Instr.field ty (.agg ⟨xs'⟩) f).run P w = .ok v' w := by
            simp only [Instr.field, Sem.run_bind, run_underlying hu, Result.andThen_ok, hf, asAgg, Sem.run_pure, r1]
          exact wp_val (by simp only [execOp, ho, hxe]) r3 hlr S r2 g
      · cases h
    · cases h
  · -- indexAddr
    rename_i ty x i ho
    split at h
    · rename_i v0 u0 hv0 hu0
      obtain ⟨v, e1, rfl, rfl⟩ := val1_some h
      obtain ⟨v', r1, r2⟩ := index_run (P := P) e1 (evA_run hv0 ht) (evA_run hu0 ht) w
      exact wp_val (by simp only [execOp, ho]) r1 hlr S r2 g
    · cases h
  · -- index
    rename_i ty x i ho
    split at h
    · rename_i cs k n hv0 hu0
      split at h
      · rename_i len e hu
        split at h
        · rename_i sz hsz
          split at h
          · rename_i hb
            obtain ⟨v, e1, rfl, rfl⟩ := val1_some h
            have hvx := evA_run hv0 ht
            have hvi := evA_run hu0 ht
            generalize hxe : a.eval x = xv at hvx
            generalize hie : a.eval i = iv at hvi
            cases hvi
            cases hvx with
            | agg xs xs' hx ex eo =>
              obtain ⟨v', r1, r2⟩ := part_run (P := P) e1 ⟨hx, ex⟩ eo w
              have r3 : (Instr.index ty (.agg ⟨xs'⟩) (.int k n)).run P w = .ok v' w := by
                simp only [Instr.index, asIntOf, Sem.run_bind, run_underlying hu, Result.andThen_ok, Sem.run_pure]
                rw [if_pos hb]
                simp only [Sem.run_bind, run_sizeOf hsz, Result.andThen_ok, r1]
              exact wp_val (by simp only [execOp, ho, hxe, hie]) r3 hlr S r2 g
          · cases h
        · cases h
      · cases h
    · rename_i s k n hv0 hu0
      obtain ⟨v, e1, rfl, rfl⟩ := val1_some h
      obtain ⟨e2, e3⟩ := ifGround_some e1
      have hvx := (evA_run hv0 ht).ground_eq rfl
      have hvi := (evA_run hu0 ht).ground_eq rfl
      have r1 := pureRun_run P _ _ e2 w
      exact wp_val (by simp only [execOp, ho, hvx, hvi]) r1 hlr S (ground_VR L v e3) g
    · cases h
  · -- lookup
    rename_i ty x i ok ho
    split at h
    · rename_i v0 u0 hv0 hu0
      obtain ⟨v, e1, rfl, rfl⟩ := val1_some h
      obtain ⟨v', r1, r2⟩ := lookup_run (P := P) S e1 (evA_run hv0 ht) (evA_run hu0 ht)
      exact wp_val (by simp only [execOp, ho]) r1 hlr S r2 g
    · cases h
  · -- mapUpdate
    rename_i ty m k x ho
    split at h
    · rename_i v0 u0 q0 hv0 hu0 hq0
      obtain ⟨e1, rfl⟩ := skip1_some h
      obtain ⟨w', r1, r2⟩ := mapPut_run (P := P) S e1 (evA_run hv0 ht) (evA_run hu0 ht) (evA_run hq0 ht)
      exact wp_skip' (by simp only [execOp, ho]) r1 hlr r2 g
    · cases h
  · -- insert
    rename_i ty m k x ho
    split at h
    · rename_i v0 u0 q0 hv0 hu0 hq0
      obtain ⟨e1, rfl⟩ := skip1_some h
      obtain ⟨w', r1, r2⟩ := mapPut_run (P := P) S e1 (evA_run hv0 ht) (evA_run hu0 ht) (evA_run hq0 ht)
      exact wp_skip' (by simp only [execOp, ho]) r1 hlr r2 g
    · cases h
  · -- extract
    rename_i x i ho
    split at h
    · rename_i vs hv0
      obtain ⟨v, e1, rfl, rfl⟩ := val1_some h
      have hvx := evA_run hv0 ht
      generalize hxe : a.eval x = xv at hvx
      cases hvx with
      | tuple xs xs' hx ex =>
        obtain ⟨v', r1, r2⟩ := LR.get? ⟨hx, ex⟩ e1
        have r3 : (Instr.extract (.tuple ⟨xs'⟩) i).run P w = .ok v' w := by
          simp only [Instr.extract, List.getElem?_toArray, r1, Sem.run_pure]
        exact wp_val (by simp only [execOp, ho, hxe]) r3 hlr S r2 g
    · cases h
  · -- call
    rename_i c ho
    exact call_run hc S h ht ho g
  · -- panic
    rename_i x ho
    split at h
    · rename_i ty v0 hv0
      simp only [Option.some.injEq, Prod.mk.injEq] at h
      obtain ⟨rfl, rfl⟩ := h
      have hvx := evA_run hv0 ht
      generalize hxe : a.eval x = xv at hvx
      cases hvx with
      | iface _ _ v' hv =>
        have he : (execOp a.eval o).run P w = .halt (.panic (.iface ty v')) w := by
          simp only [execOp, ho, hxe, Instr.panic, Sem.run_bind, run_goPanic, Result.andThen_halt]
        unfold Oper.wp; rw [he, Oper.upon_panic]
        exact g L _ w hlr S (.iface ty _ _ hv)
    · cases h
  · cases h

end Go.Vm
