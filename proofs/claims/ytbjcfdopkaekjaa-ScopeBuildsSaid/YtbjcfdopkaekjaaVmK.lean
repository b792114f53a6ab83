/- What is proved: summaries of functions that touch no memory that was there, and the model's call of a function from the machine's run; no theorem of the program. -/
import Derived.Test.YtbjcfdopkaekjaaVmJ
import Derived.IntWalk
namespace Go.Vm
open Go.RowKit
set_option linter.unusedSimpArgs false
set_option linter.unusedVariables false
variable {P : Program} {N : Th} {W0 : World} {L : Lay} {H : Heap} {w : World}

/-- Functions of which it is known what they give, if no address is in what they take. -/
def pureHooks (g : FuncId → List Value → Option Value) : Hooks :=
  ⟨fun f => (g f []).isSome, fun f args H => match g f args with
    | some v => match groundL args && ground v with | true => some (.val v, H) | false => none
    | none => none⟩

theorem pureHooks_ok (hm : P.follows .mixedOrders = true) {E : Hooks} (hE : ∀ N W0, CallOK P N W0 E.run) {g : FuncId → List Value → Option Value}
    (h : ∀ f args v, g f args = some v → groundL args = true → ground v = true → ∃ H', (run P E).call f args Heap.empty = some (.val v, H')) (N : Th) (W0 : World) : CallOK P N W0 (pureHooks g).run := by
  intro f args H out H' hr L w args' S ha
  simp only [pureHooks] at hr
  split at hr
  · rename_i v hg
    split at hr
    · rename_i hgr
      rw [Bool.and_eq_true] at hgr
      simp only [Option.some.injEq, Prod.mk.injEq] at hr
      obtain ⟨rfl, rfl⟩ := hr
      obtain ⟨H', hrun⟩ := h f args v hg hgr.1 hgr.2
      have e := ha.ground_eq hgr.1
      subst e
      refine (run_sound hm hE f args' Heap.empty _ H' hrun _ w args' (sim_empty w) (groundL_LR _ _ hgr.1)).mono fun e w' hx => ?_
      obtain ⟨L', l1, l2, l3⟩ := hx
      refine ⟨L, Lay.le_refl L, S.later l2.below l2.calm, ?_⟩
      cases e with
      | returned v' =>
        have l4 : VR L' v v' := l3
        have := l4.ground_eq hgr.2
        subst this
        exact ground_VR L _ hgr.2
      | _ => exact l3.elim
    · cases hr
  · cases hr

def isTrueOut : Option (Out × Heap) → Bool
  | some (.val (.bool b), _) => b
  | _ => false
@[simp] theorem isTrueOut_val (b : Bool) (H : Heap) : isTrueOut (some (.val (.bool b), H)) = b := id rfl
theorem isTrueOut_some {r : Option (Out × Heap)} (h : isTrueOut r = true) : ∃ H', r = some (.val (.bool true), H') := by
  unfold isTrueOut at h
  split at h
  · subst h; exact ⟨_, rfl⟩
  · cases h

/-- The model's call of a function that hands back a value without an address. -/
theorem calls_of_run (hm : P.follows .mixedOrders = true) {E : Hooks} {f : FuncId} {fn : Func} {c : Code} (hf : P.funcs[f]? = some fn) (hb : fn.body = some c) {args args' : List Value} {v : Value} {H' : Heap}
    (h : (run P E).call f args H = some (.val v, H')) (hv : ground v = true) (hE : ∀ N W0, CallOK P N W0 E.run) (S : Sim w.heap.size w L H w) (ha : LR L args args') :
    Calls P f ⟨args'⟩ w fun e w' => e = .returned v ∧ Below w.heap.size w w' := by
  rcases run_sound hm hE f args H _ H' h L w args' S ha with ⟨fn', h1, h2, h3, h4⟩ | ⟨v', w', h1, h2⟩
  · refine h4.mono fun e w' hx => ?_
    obtain ⟨L', l1, l2, l3⟩ := hx
    refine ⟨?_, l2.below⟩
    cases e with
    | returned v' =>
      have l4 : VR L' v v' := l3
      rw [l4.ground_eq hv]
    | _ => exact l3.elim
  · exfalso
    unfold callFunc at h1
    simp only [Sem.run_bind, run_program, Result.andThen_ok, hf] at h1
    by_cases hn : (fn.name == "runtime.NumGoroutine") = true
    · rw [if_pos hn] at h1
      cases h1
    · rw [if_neg hn, if_neg (by rw [hb]; simp)] at h1
      cases h1

end Go.Vm

namespace Go.Vm
open Go.RowKit
set_option linter.unusedSimpArgs false
set_option linter.unusedVariables false
variable {P : Program} {E : Hooks}

/-! ### The slots that a piece of code leaves alone -/
def dstsOf : Code → List Nat
  | .region _ ops _ => ops.toList.filterMap (·.dst)
  | .seq a b => dstsOf a ++ dstsOf b
  | .cond _ a b => dstsOf a ++ dstsOf b
  | .block _ c => dstsOf c
  | .loop c => dstsOf c
  | .scope c => dstsOf c
  | _ => []

def Kept (ds : List Nat) (t t' : List Value) : Prop := t'.length = t.length ∧ ∀ k, k ∉ ds → rd t' k = rd t k
theorem Kept.refl (ds : List Nat) (t : List Value) : Kept ds t t := ⟨rfl, fun _ _ => rfl⟩
theorem Kept.trans {ds : List Nat} {t t' t'' : List Value} (h : Kept ds t t') (k : Kept ds t' t'') : Kept ds t t'' := ⟨k.1.trans h.1, fun i hi => (k.2 i hi).trans (h.2 i hi)⟩
theorem Kept.mono {ds ds' : List Nat} {t t' : List Value} (h : Kept ds t t') (hs : ∀ k ∈ ds, k ∈ ds') : Kept ds' t t' := ⟨h.1, fun i hi => h.2 i fun h => hi (hs i h)⟩
theorem rd_set_ne (t : List Value) (d k : Nat) (v : Value) (h : d ≠ k) : rd (t.set d v) k = rd t k := by
  unfold rd
  rw [List.getD_eq_getElem?_getD, List.getD_eq_getElem?_getD, List.getElem?_set_ne h]
theorem Kept.put {ds : List Nat} {t : List Value} (dst : Option Tmp) (v : Value) (h : ∀ d, dst = some d → d ∈ ds) : Kept ds t (putA t dst v) := by
  cases dst with
  | none => exact .refl _ _
  | some d => exact ⟨by simp [putA], fun k hk => rd_set_ne t d k v fun e => hk (e ▸ h d rfl)⟩

theorem kept_list {call : CallA} {ops : List Oper} : ∀ {rest : List Oper} {s : St} {H : Heap} {e : ExA} {s' : St} {H' : Heap}, exList P call ops rest s H = some (e, s', H') → Kept (rest.filterMap (·.dst)) s.t s'.t
  | [], s, H, e, s', H', h => by
    simp only [exList, Option.some.injEq, Prod.mk.injEq] at h
    obtain ⟨rfl, rfl, rfl⟩ := h
    exact .refl _ _
  | o :: rest, s, H, e, s', H', h => by
    have hsub : ∀ k ∈ rest.filterMap (·.dst), k ∈ (o :: rest).filterMap (·.dst) := fun k hk => by
      simp only [List.mem_filterMap, List.mem_cons] at hk ⊢
      obtain ⟨a, h1, h2⟩ := hk
      exact ⟨a, .inr h1, h2⟩
    have hd : ∀ d, o.dst = some d → d ∈ (o :: rest).filterMap (·.dst) := fun d hd => List.mem_filterMap.2 ⟨o, by simp, hd⟩
    simp only [exList] at h
    split at h
    · exact (Kept.put o.dst undef hd).trans ((kept_list h).mono hsub)
    · split at h
      · split at h
        · exact (Kept.put o.dst undef hd).trans ((kept_list h).mono hsub)
        · cases h
      · split at h
        · cases h
        · simp only [Option.some.injEq, Prod.mk.injEq] at h
          obtain ⟨rfl, rfl, rfl⟩ := h
          exact .refl _ _
        · exact (Kept.put o.dst _ hd).trans ((kept_list h).mono hsub)

theorem kept_text {call : CallA} {ops : List Oper} : ∀ {rest : List Oper} {t : List Value} {H : Heap} {tr : List (List Value × Value)} {hs : List Heap} {t' : List Value} {H2 : Heap}, exText P call ops rest t H = some (tr, hs, t', H2) → Kept (rest.filterMap (·.dst)) t t'
  | [], t, H, tr, hs, t', H2, h => by
    simp only [exText, Option.some.injEq, Prod.mk.injEq] at h
    obtain ⟨rfl, rfl, rfl, rfl⟩ := h
    exact .refl _ _
  | o :: rest, t, H, tr, hs, t', H2, h => by
    have hsub : ∀ k ∈ rest.filterMap (·.dst), k ∈ (o :: rest).filterMap (·.dst) := fun k hk => by
      simp only [List.mem_filterMap, List.mem_cons] at hk ⊢
      obtain ⟨a, h1, h2⟩ := hk
      exact ⟨a, .inr h1, h2⟩
    have hd : ∀ d, o.dst = some d → d ∈ (o :: rest).filterMap (·.dst) := fun d hd => List.mem_filterMap.2 ⟨o, by simp, hd⟩
    simp only [exText] at h
    split at h
    · cases h
    · rename_i v H' h1
      split at h
      · cases h
      · rename_i tr1 hs1 t1 H3 h2
        have := kept_text h2
        split at h <;>
          (simp only [Option.some.injEq, Prod.mk.injEq] at h
           obtain ⟨_, _, rfl, rfl⟩ := h
           exact (Kept.put o.dst _ hd).trans (this.mono hsub))

theorem findLabel_dsts : ∀ {c : Code} {l : Nat} {r : Code}, findLabel c l = some r → ∀ k ∈ dstsOf r, k ∈ dstsOf c := by
  intro c
  induction c with
  | seq a b iha ihb =>
    intro l r h k hk
    simp only [findLabel] at h
    split at h
    · rename_i rest hr
      simp only [Option.some.injEq] at h
      subst h
      simp only [dstsOf, List.mem_append] at hk ⊢
      exact hk.imp (iha hr k) id
    · simp only [dstsOf, List.mem_append]
      exact .inr (ihb h k hk)
  | label l' =>
    intro l r h k hk
    simp only [findLabel] at h
    split at h
    · simp only [Option.some.injEq] at h; subst h; simp [dstsOf] at hk
    · cases h
  | _ => intro l r h; simp [findLabel] at h

structure KeptR (r : Runs) : Prop where
  code : ∀ {c s H e s' H'}, r.code c s H = some (e, s', H') → Kept (dstsOf c) s.t s'.t
  scope : ∀ {b c s H e s' H'}, r.scope b c s H = some (e, s', H') → Kept (dstsOf b ++ dstsOf c) s.t s'.t

theorem kept_then {r : Runs} (hr : KeptR r) {c d : Code} {ds : List Nat} (h1 : ∀ k ∈ dstsOf c, k ∈ ds) (h2 : ∀ k ∈ dstsOf d, k ∈ ds) {s : St} {H : Heap} {e : ExA} {s' : St} {H' : Heap}
    (h : (match r.code c s H with | some (.normal, s', H') => r.code d s' H' | x => x) = some (e, s', H')) : Kept ds s.t s'.t := by
  obtain ⟨e1, s1, H1, k1, k2, k3⟩ := next_some h
  by_cases he : e1 = .normal
  · exact ((hr.code k1).mono h1).trans ((hr.code (k2 he)).mono h2)
  · obtain ⟨rfl, rfl, rfl⟩ := k3 he
    exact (hr.code k1).mono h1

theorem kept_freeT {call : CallA} {ops : List Oper} : ∀ {rest : List Oper} {t : List Value} {r : Nat} {H : Heap} {st : List StepR} {t' : List Value} {H2 : Heap}, exFreeT P call ops rest t r H = some (st, t', H2) → Kept (rest.filterMap (·.dst)) t t'
  | [], t, r, H, st, t', H2, h => by
    simp only [exFreeT, Option.some.injEq, Prod.mk.injEq] at h
    obtain ⟨rfl, rfl, rfl⟩ := h
    exact .refl _ _
  | o :: rest, t, r, H, st, t', H2, h => by
    have hsub : ∀ k ∈ rest.filterMap (·.dst), k ∈ (o :: rest).filterMap (·.dst) := fun k hk => by
      simp only [List.mem_filterMap, List.mem_cons] at hk ⊢
      obtain ⟨a, h1, h2⟩ := hk
      exact ⟨a, .inr h1, h2⟩
    have hd : ∀ d, o.dst = some d → d ∈ (o :: rest).filterMap (·.dst) := fun d hd => List.mem_filterMap.2 ⟨o, by simp, hd⟩
    simp only [exFreeT] at h
    split at h
    · cases h
    · split at h
      · cases h
      · rename_i h2
        simp only [Option.some.injEq, Prod.mk.injEq] at h
        obtain ⟨rfl, rfl, rfl⟩ := h
        exact (Kept.put o.dst _ hd).trans ((kept_freeT h2).mono hsub)
theorem kept_free {call : CallA} {ops : List Oper} {s : St} {H : Heap} {e : ExA} {s' : St} {H' : Heap} (h : exFree P call ops s H = some (e, s', H')) : Kept (ops.filterMap (·.dst)) s.t s'.t := by
  unfold exFree at h
  split at h
  · cases h
  · split at h
    · cases h
    · rename_i ht
      split at h
      · simp only [Option.some.injEq, Prod.mk.injEq] at h
        obtain ⟨rfl, rfl, rfl⟩ := h
        exact kept_freeT ht
      · cases h
theorem kept_noplan {call : CallA} {ops : List Oper} {s : St} {H : Heap} {e : ExA} {s' : St} {H' : Heap} (h : exNoPlan P call ops s H = some (e, s', H')) : Kept (ops.filterMap (·.dst)) s.t s'.t := by
  unfold exNoPlan at h
  split at h
  · rename_i q hq
    have hp := late_ok hq
    unfold exLate2 at h
    split at h
    · split at h
      · cases h
      · rename_i ht
        split at h
        · unfold exLast at h
          split at h
          · split at h
            · simp only [Option.some.injEq, Prod.mk.injEq] at h
              obtain ⟨rfl, rfl, rfl⟩ := h
              obtain ⟨oa, g1, _, g3, _⟩ := hp.alloc
              refine ((kept_text ht).mono fun k hk => ?_).trans (Kept.put (some q.d) _ fun d hd => ?_)
              · simp only [List.mem_filterMap] at hk ⊢
                obtain ⟨o', h1, h2⟩ := hk
                obtain ⟨i, hi⟩ := List.getElem?_of_mem h1
                obtain ⟨_, o, h3, rfl⟩ := lateA_of hi
                refine ⟨o, List.mem_of_getElem? h3, ?_⟩
                unfold blank at h2
                split at h2
                · cases h2
                · exact h2
              · simp only [Option.some.injEq] at hd
                subst hd
                exact List.mem_filterMap.2 ⟨oa, List.mem_of_getElem? g1, g3⟩
            · cases h
          · cases h
        · cases h
    · cases h
  · exact kept_free h
theorem kept_code {r : Runs} (hr : KeptR r) {c : Code} {s : St} {H : Heap} {e : ExA} {s' : St} {H' : Heap} (h : exCode P r (exDraw P r.call) c s H = some (e, s', H')) : Kept (dstsOf c) s.t s'.t := by
  have same : ∀ {x : ExA}, some (x, s, H) = some (e, s', H') → Kept (dstsOf c) s.t s'.t := by
    intro x h
    simp only [Option.some.injEq, Prod.mk.injEq] at h
    obtain ⟨rfl, rfl, rfl⟩ := h
    exact .refl _ _
  cases c with
  | region id ops draw =>
    cases draw with
    | false => exact kept_list h
    | true =>
      have h' : exDraw P r.call ops.toList s H = some (e, s', H') := h
      unfold exDraw at h'
      split at h'
      · exact kept_noplan h'
      · split at h'
        · cases h'
        · rename_i ht
          split at h'
          · simp only [Option.some.injEq, Prod.mk.injEq] at h'
            obtain ⟨rfl, rfl, rfl⟩ := h'
            exact kept_text ht
          · cases h'
  | seq a b => exact kept_then hr (fun k hk => by simp [dstsOf, hk]) (fun k hk => by simp [dstsOf, hk]) h
  | cond x a b =>
    simp only [exCode] at h
    split at h
    · exact (hr.code h).mono fun k hk => by simp [dstsOf, hk]
    · exact (hr.code h).mono fun k hk => by simp [dstsOf, hk]
    · cases h
  | block id c =>
    simp only [exCode] at h
    cases hc : r.code c s H with
    | none => rw [hc] at h; cases h
    | some p =>
      obtain ⟨e1, s1, H1⟩ := p
      rw [hc] at h
      have := hr.code hc
      cases e1 with
      | exit i =>
        simp only [] at h
        cases hb : Nat.beq i id <;> (simp only [hb, Option.some.injEq, Prod.mk.injEq] at h; obtain ⟨rfl, rfl, rfl⟩ := h; exact this)
      | _ => simp only [Option.some.injEq, Prod.mk.injEq] at h; obtain ⟨rfl, rfl, rfl⟩ := h; exact this
  | loop c => exact kept_then (c := c) (d := .loop c) hr (fun k hk => hk) (fun k hk => hk) h
  | scope c => exact (hr.scope h).mono fun k hk => by simpa [dstsOf] using hk
  | skip => exact same h
  | label l => exact same h
  | exit i => exact same h
  | goto l => exact same h
  | ret => exact same h
  | _ => simp [exCode] at h

theorem kept_scope {r : Runs} (hr : KeptR r) {b c : Code} {s : St} {H : Heap} {e : ExA} {s' : St} {H' : Heap} (h : exScope r b c s H = some (e, s', H')) : Kept (dstsOf b ++ dstsOf c) s.t s'.t := by
  unfold exScope at h
  cases hc : r.code c s H with
  | none => rw [hc] at h; cases h
  | some p =>
    obtain ⟨e1, s1, H1⟩ := p
    rw [hc] at h
    have k1 := (hr.code hc).mono (ds' := dstsOf b ++ dstsOf c) fun k hk => by simp [hk]
    cases e1 with
    | goto l =>
      simp only [] at h
      cases hf : findLabel b l with
      | none => rw [hf] at h; simp only [Option.some.injEq, Prod.mk.injEq] at h; obtain ⟨rfl, rfl, rfl⟩ := h; exact k1
      | some rest =>
        rw [hf] at h
        refine k1.trans ((hr.scope h).mono fun k hk => ?_)
        simp only [List.mem_append] at hk ⊢
        exact .inl (hk.elim id (findLabel_dsts hf k))
    | _ => simp only [Option.some.injEq, Prod.mk.injEq] at h; obtain ⟨rfl, rfl, rfl⟩ := h; exact k1

theorem kept_runs : ∀ n, KeptR (runs P E n)
  | 0 => ⟨fun h => by simp [runs] at h, fun h => by simp [runs] at h⟩
  | n + 1 => ⟨fun h => kept_code (kept_runs n) h, fun h => kept_scope (kept_runs n) h⟩

theorem kept_run {c : Code} {s : St} {H : Heap} {e : ExA} {s' : St} {H' : Heap} (h : (run P E).code c s H = some (e, s', H')) : Kept (dstsOf c) s.t s'.t := by
  obtain ⟨n, hn⟩ := lim_some h
  exact (kept_runs n).code hn

theorem Fr_nil (t : List Value) : Fr t [] = t := by unfold Fr; rfl

end Go.Vm

namespace Go.Vm
open Go.RowKit
set_option linter.unusedSimpArgs false
set_option linter.unusedVariables false
variable {P : Program} {E : Hooks}

/-! ### What a piece of code comes to -/
def Ends (r : ResA) (Q : ExA → St → Heap → Prop) : Prop := ∃ e s H, r = some (e, s, H) ∧ Q e s H
@[simp] theorem Ends_some (e : ExA) (s : St) (H : Heap) (Q : ExA → St → Heap → Prop) : Ends (some (e, s, H)) Q ↔ Q e s H :=
  ⟨fun ⟨e', s', H', h, q⟩ => by simp only [Option.some.injEq, Prod.mk.injEq] at h; obtain ⟨rfl, rfl, rfl⟩ := h; exact q, fun q => ⟨e, s, H, rfl, q⟩⟩
theorem Ends.mono {r : ResA} {Q Q' : ExA → St → Heap → Prop} (h : Ends r Q) (k : ∀ e s H, Q e s H → Q' e s H) : Ends r Q' := let ⟨e, s, H, h1, h2⟩ := h; ⟨e, s, H, h1, k _ _ _ h2⟩
def Gives (r : Option (Out × Heap)) (Q : Out → Heap → Prop) : Prop := ∃ o H, r = some (o, H) ∧ Q o H
@[simp] theorem Gives_some (o : Out) (H : Heap) (Q : Out → Heap → Prop) : Gives (some (o, H)) Q ↔ Q o H :=
  ⟨fun ⟨o', H', h, q⟩ => by simp only [Option.some.injEq, Prod.mk.injEq] at h; obtain ⟨rfl, rfl⟩ := h; exact q, fun q => ⟨o, H, rfl, q⟩⟩
theorem Gives.mono {r : Option (Out × Heap)} {Q Q' : Out → Heap → Prop} (h : Gives r Q) (k : ∀ o H, Q o H → Q' o H) : Gives r Q' := let ⟨o, H, h1, h2⟩ := h; ⟨o, H, h1, k _ _ h2⟩

def loopsOf : Code → List Code
  | .seq a b => loopsOf a ++ loopsOf b
  | .cond _ a b => loopsOf a ++ loopsOf b
  | .block _ c => loopsOf c
  | .scope c => loopsOf c
  | .loop c => c :: loopsOf c
  | _ => []
/-- The body of a function's i-th loop. -/
def loopN (fn : Func) (i : Nat) : Code := match fn.body with | some c => (loopsOf c).getD i .skip | none => .skip

/-- A loop: what holds at its head, at a number that falls. -/
theorem loop_ends {c : Code} {Q : ExA → St → Heap → Prop} (I : Nat → List Value → Heap → Prop)
    (step : ∀ m t H, I m t H → Ends ((run P E).code c ⟨t, []⟩ H) fun e s H' => (e = .normal ∧ s.ds = [] ∧ ∃ m', m' < m ∧ I m' s.t H') ∨ (e ≠ .normal ∧ Q e s H')) :
    ∀ m t H, I m t H → Ends ((run P E).code (.loop c) ⟨t, []⟩ H) Q := by
  intro m
  induction m using Nat.strongRecOn with
  | _ m ih =>
    intro t H h
    obtain ⟨e, s, H', h1, h2⟩ := step m t H h
    rw [code_loop, h1]
    rcases h2 with ⟨rfl, hd, m', hlt, hI⟩ | ⟨hn, hq⟩
    · obtain ⟨t', ds'⟩ := s
      simp only at hd
      subst hd
      rw [thenA_normal]
      exact ih m' hlt t' H' hI
    · cases e with
      | normal => exact absurd rfl hn
      | exit i => rw [thenA_exit]; exact ⟨_, _, _, rfl, hq⟩
      | goto i => rw [thenA_goto]; exact ⟨_, _, _, rfl, hq⟩
      | ret => rw [thenA_ret]; exact ⟨_, _, _, rfl, hq⟩
      | pan v => rw [thenA_pan]; exact ⟨_, _, _, rfl, hq⟩

end Go.Vm

namespace Go.Vm
theorem wrap64 (x : Int) (h1 : -9223372036854775808 ≤ x) (h2 : x ≤ 9223372036854775807) : IntKind.i64.wrap x = x := Go.IntWalk.i64_in x ⟨h1, h2⟩
theorem wrap64n (x : Nat) (h2 : x ≤ 9223372036854775807) : IntKind.i64.wrap (x : Int) = x := wrap64 _ (by omega) (by omega)

/-- What is about a piece of code that is known. -/
theorem Gives.hole {Q : Out → Heap → Prop} {r : ResA} {R : ExA → St → Heap → Prop} (F : ResA → Option (Out × Heap)) (h : Ends r R) (k : ∀ e s H, r = some (e, s, H) → R e s H → Gives (F (some (e, s, H))) Q) : Gives (F r) Q := by
  obtain ⟨e, s, H, h1, h2⟩ := h
  rw [h1]
  exact k e s H h1 h2
theorem Ends.hole {Q : ExA → St → Heap → Prop} {r : ResA} {R : ExA → St → Heap → Prop} (F : ResA → ResA) (h : Ends r R) (k : ∀ e s H, r = some (e, s, H) → R e s H → Ends (F (some (e, s, H))) Q) : Ends (F r) Q := by
  obtain ⟨e, s, H, h1, h2⟩ := h
  rw [h1]
  exact k e s H h1 h2
theorem Gives.true {r : Option (Out × Heap)} (h : Gives r fun o _ => o = .val (.bool true)) : ∃ H', r = some (.val (.bool true), H') := by
  obtain ⟨o, H, h1, rfl⟩ := h
  exact ⟨H, h1⟩
end Go.Vm

namespace Go.Vm
/-- A heap that is as it was, but for new objects and for some that were there. -/
structure Same (X : Nat → Prop) (H H' : Heap) : Prop where
  n : H.n ≤ H'.n
  get : ∀ i, i < H.n → ¬ X i → H'.get i = H.get i
theorem Same.refl (X : Nat → Prop) (H : Heap) : Same X H H := ⟨Nat.le_refl _, fun _ _ _ => rfl⟩
theorem Same.trans {X : Nat → Prop} {A B C : Heap} (h : Same X A B) (k : Same X B C) : Same X A C := ⟨Nat.le_trans h.n k.n, fun i hi hx => (k.get i (Nat.lt_of_lt_of_le hi h.n) hx).trans (h.get i hi hx)⟩
theorem Same.mono {X Y : Nat → Prop} {A B : Heap} (h : Same X A B) (hxy : ∀ i, X i → Y i) : Same Y A B := ⟨h.n, fun i hi hy => h.get i hi fun hx => hy (hxy i hx)⟩
theorem Same.push (X : Nat → Prop) (H : Heap) (o : AObj) : Same X H (H.push o) := ⟨Nat.le_succ _, fun i hi _ => by rw [Heap.get_push, if_neg (Nat.ne_of_lt hi)]⟩
theorem Same.set {X : Nat → Prop} (H : Heap) {i : Nat} (hi : i < H.n) (hx : X i) (o : AObj) : Same X H (H.set i o) := ⟨Nat.le_refl _, fun j _ hj => by rw [Heap.get_set H i o hi, if_neg (fun (e : j = i) => hj (by rw [e]; exact hx))]⟩
/-- What was there and is not among them is as it was. -/
theorem Same.at {X : Nat → Prop} {H H' : Heap} (h : Same X H H') {i : Nat} {o : AObj} (hg : H.get i = o) (hd : o ≠ .dead) (hx : ¬ X i) : H'.get i = o := by
  rw [h.get i (Heap.lt_of_get hg hd) hx]; exact hg

theorem writeAt_get (cs : List Value) (off : Nat) (vs : List Value) (h : off + vs.length ≤ cs.length) (j : Nat) : (writeAt cs off vs)[j]? = if off ≤ j ∧ j < off + vs.length then vs[j - off]? else cs[j]? := by
  unfold writeAt
  rcases Nat.lt_or_ge j off with h1 | h1
  · rw [List.getElem?_append_left (by simp; omega), List.getElem?_take_of_lt h1, if_neg (by omega)]
  · rw [List.getElem?_append_right (by simp; omega)]
    have e : (cs.take off).length = off := by simp; omega
    rw [e]
    rcases Nat.lt_or_ge j (off + vs.length) with h2 | h2
    · rw [List.getElem?_append_left (by omega), if_pos ⟨h1, h2⟩]
    · rw [List.getElem?_append_right (by omega), if_neg (by omega), List.getElem?_drop]
      congr 1
      omega
theorem writeAt_len (cs : List Value) (off : Nat) (vs : List Value) (h : off + vs.length ≤ cs.length) : (writeAt cs off vs).length = cs.length := by simp [writeAt]; omega
theorem writeAt_rep_succ (cs : List Value) (off i : Nat) (v : Value) (h : off + i < cs.length) : (writeAt cs off (List.replicate i v)).set (off + i) v = writeAt cs off (List.replicate (i + 1) v) := by
  apply List.ext_getElem?
  intro j
  rw [List.getElem?_set, writeAt_len _ _ _ (by simp; omega), writeAt_get _ _ _ (by simp; omega), writeAt_get _ _ _ (by simp; omega)]
  simp only [List.length_replicate, List.getElem?_replicate]
  by_cases e : off + i = j
  · subst e
    rw [if_pos rfl, if_pos h, if_pos (by omega), if_pos (by omega)]
  · rw [if_neg e]
    by_cases c : off ≤ j ∧ j < off + i
    · rw [if_pos c, if_pos (by omega), if_pos (by omega), if_pos (by omega)]
    · rw [if_neg c, if_neg (by omega)]
end Go.Vm

namespace Go.Vm
theorem Tr.set_set (o o' : AObj) : ∀ (f : Nat) (t : Tr) (i : Nat), Tr.set f (Tr.set f t i o) i o' = Tr.set f t i o' := by
  intro f
  induction f with
  | zero => intro t i; rfl
  | succ f ih =>
    intro t i
    cases t with
    | leaf =>
      simp only [Tr.set]
      cases hi : Nat.beq i 0 with
      | true => simp only [Tr.set, hi]
      | false =>
        simp only []
        cases hp : Nat.beq (i % 2) 1 with
        | true => simp only [Tr.set, hi, hp, ih]
        | false => simp only [Tr.set, hi, hp, ih]
    | node p l r =>
      simp only [Tr.set]
      cases hi : Nat.beq i 0 with
      | true => simp only [Tr.set, hi]
      | false =>
        simp only []
        cases hp : Nat.beq (i % 2) 1 with
        | true => simp only [Tr.set, hi, hp, ih]
        | false => simp only [Tr.set, hi, hp, ih]
@[simp] theorem Heap.push_set (H : Heap) (o o' : AObj) : (H.push o).set H.n o' = H.push o' := by
  unfold Heap.push Heap.set
  simp only [Tr.set_set]
@[simp] theorem Heap.get_push_self (H : Heap) (o : AObj) : (H.push o).get H.n = o := by rw [Heap.get_push, if_pos rfl]
theorem Heap.get_push_lt (H : Heap) (o : AObj) {i : Nat} (h : i < H.n) : (H.push o).get i = H.get i := by rw [Heap.get_push, if_neg (Nat.ne_of_lt h)]
end Go.Vm
