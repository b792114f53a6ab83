/- What is defined and proved: the run without a bound on its steps, and its laws; no theorem of the program. -/
import Derived.Test.YtbjcfdopkaekjaaVmH
namespace Go.Vm
set_option linter.unusedSimpArgs false
set_option linter.unusedVariables false
variable {P : Program} {E : Hooks}

/-- From some number on. -/
def Ev (p : Nat → Prop) : Prop := ∃ m, ∀ n, m ≤ n → p n
theorem Ev.of {p : Nat → Prop} (h : ∀ n, p n) : Ev p := ⟨0, fun n _ => h n⟩
theorem Ev.map {p q : Nat → Prop} (h : Ev p) (k : ∀ n, p n → q n) : Ev q := let ⟨m, hm⟩ := h; ⟨m, fun n hn => k n (hm n hn)⟩
theorem Ev.map2 {p q r : Nat → Prop} (h : Ev p) (h' : Ev q) (k : ∀ n, p n → q n → r n) : Ev r :=
  let ⟨m, hm⟩ := h; let ⟨m', hm'⟩ := h'; ⟨max m m', fun n hn => k n (hm n (by omega)) (hm' n (by omega))⟩

/-- All that the one run gives, the others give from some number on. -/
structure Sup (A : Runs) (B : Nat → Runs) : Prop where
  call : ∀ {f args H r}, A.call f args H = some r → Ev fun n => (B n).call f args H = some r
  code : ∀ {c s H r}, A.code c s H = some r → Ev fun n => (B n).code c s H = some r
  scope : ∀ {b c s H r}, A.scope b c s H = some r → Ev fun n => (B n).scope b c s H = some r

section
variable {A : CallA} {B : Nat → CallA} (S : ∀ f args H r, A f args H = some r → Ev fun n => B n f args H = some r)
include S
theorem ev_iso {f : FuncId} {args : List Value} {H : Heap} {r : Out × Heap} (h : isoCall A f args H = some r) : Ev fun n => isoCall (B n) f args H = some r := by
  obtain ⟨out, H'⟩ := r
  obtain ⟨v, H1, rfl, rfl, hg, hv, hr⟩ := isoCall_some h
  exact (S _ _ _ _ hr).map fun n hn => isoCall_eq hg hv hn _
theorem ev_opR {o : Op} {t : List Value} {r : Nat} {H : Heap} {x : Out × Heap} (h : exOpR P A o t r H = some x) : Ev fun n => exOpR P (B n) o t r H = some x := by
  unfold exOpR at h ⊢
  split at h
  case h_7 f args ts =>
    simp only [exOp, exCallOp] at h ⊢
    split at h
    · cases h
    · rename_i as hvs
      split at h
      · rename_i gf first captured hev
        exact ev_iso S h
      · cases h
  all_goals exact .of fun n => h
theorem ev_oneR {ops : List Oper} {o : Oper} {t : List Value} {r : Nat} {H : Heap} {x : Value × Heap} (h : exOneR P A ops o t r H = some x) : Ev fun n => exOneR P (B n) ops o t r H = some x := by
  unfold exOneR at h ⊢
  cases hw : wantA ops o t with
  | false => simp only [hw] at h ⊢; exact .of fun n => h
  | true =>
    simp only [hw] at h ⊢
    cases ho : exOpR P A o.op t r H with
    | none => rw [ho] at h; cases h
    | some p =>
      rw [ho] at h
      refine (ev_opR (P := P) S ho).map fun n hn => ?_
      rw [hn]; exact h
theorem ev_freeT {ops : List Oper} : ∀ {rest : List Oper} {t : List Value} {r : Nat} {H : Heap} {x : List StepR × List Value × Heap}, exFreeT P A ops rest t r H = some x → Ev fun n => exFreeT P (B n) ops rest t r H = some x
  | [], t, r, H, x, h => .of fun n => h
  | o :: rest, t, r, H, x, h => by
    simp only [exFreeT] at h ⊢
    cases ho : exOneR P A ops o t r H with
    | none => rw [ho] at h; cases h
    | some p =>
      obtain ⟨v, H'⟩ := p
      rw [ho] at h
      simp only [] at h
      cases ht : exFreeT P A ops rest (putA t o.dst v) (r + needR o.op) H' with
      | none => rw [ht] at h; cases h
      | some q =>
        rw [ht] at h
        refine (ev_oneR (P := P) S ho).map2 (ev_freeT ht) fun n hn hm => ?_
        rw [hn]; simp only []; rw [hm]; exact h
theorem ev_free {ops : List Oper} {s : St} {H : Heap} {r : ExA × St × Heap} (h : exFree P A ops s H = some r) : Ev fun n => exFree P (B n) ops s H = some r := by
  unfold exFree at h ⊢
  cases hf : freeOK ops (preOf ops) with
  | false => rw [hf] at h; cases h
  | true =>
    rw [hf] at h
    simp only [] at h ⊢
    cases ht : exFreeT P A ops ops s.t H.n (H.room (needAll ops)) with
    | none => rw [ht] at h; cases h
    | some q =>
      rw [ht] at h
      exact (ev_freeT (P := P) S ht).map fun n hn => by rw [hn]; exact h
end

section
variable {A : Runs} {B : Nat → Runs} (S : Sup A B)
include S

theorem sup_callOp {c : Call} {t : List Value} {H : Heap} {r : Out × Heap} (h : exCallOp P A.call c t H = some r) : Ev fun n => exCallOp P (B n).call c t H = some r := by
  unfold exCallOp at h ⊢
  cases he : evL t c.args.toList with
  | none => rw [he] at h; cases h
  | some args =>
    rw [he] at h
    simp only [] at h ⊢
    cases hc : c.callee with
    | builtin b => rw [hc] at h; exact .of fun _ => h
    | invoke r m =>
      rw [hc] at h
      simp only [] at h ⊢
      split at h
      · split at h
        · exact S.call h
        · cases h
      · cases h
    | value f =>
      rw [hc] at h
      simp only [] at h ⊢
      split at h
      · exact S.call h
      · cases h

theorem sup_op {o : Op} {t : List Value} {H : Heap} {r : Out × Heap} (h : exOp P A.call o t H = some r) : Ev fun n => exOp P (B n).call o t H = some r := by
  cases o with
  | call c => exact sup_callOp S h
  | makeFunc fn a b => cases fn <;> exact .of fun n => h
  | makeMap t r => cases r <;> exact .of fun n => h
  | _ => exact .of fun n => h

theorem sup_list {ops : List Oper} : ∀ {rest : List Oper} {s : St} {H : Heap} {r : ExA × St × Heap}, exList P A.call ops rest s H = some r → Ev fun n => exList P (B n).call ops rest s H = some r
  | [], s, H, r, h => .of fun n => h
  | o :: rest, s, H, r, h => by
    simp only [exList] at h ⊢
    cases hw : wantA ops o s.t with
    | false => simp only [hw] at h ⊢; exact sup_list h
    | true =>
      simp only [hw] at h ⊢
      cases hd : deferOf o.op with
      | some c =>
        simp only [hd] at h ⊢
        cases hx : exDefer c s.t with
        | none => rw [hx] at h; cases h
        | some d => rw [hx] at h; simp only []; exact sup_list h
      | none =>
        simp only [hd] at h ⊢
        cases ho : exOp P A.call o.op s.t H with
        | none => rw [ho] at h; cases h
        | some p =>
          obtain ⟨out, H1⟩ := p
          rw [ho] at h
          have k := sup_op (P := P) S ho
          cases out with
          | pan v => exact k.map fun n hn => by rw [hn]; exact h
          | val v => exact k.map2 (sup_list h) fun n hn hm => by rw [hn]; exact hm

theorem sup_one {ops : List Oper} {o : Oper} {t : List Value} {H : Heap} {r : Value × Heap} (h : exOne P A.call ops o t H = some r) : Ev fun n => exOne P (B n).call ops o t H = some r := by
  unfold exOne at h ⊢
  cases hw : wantA ops o t with
  | false => simp only [hw] at h ⊢; exact .of fun n => h
  | true =>
    simp only [hw] at h ⊢
    cases ho : exOp P A.call o.op t H with
    | none => rw [ho] at h; cases h
    | some p =>
      rw [ho] at h
      refine (sup_op (P := P) S ho).map fun n hn => ?_
      rw [hn]; exact h

theorem sup_text {ops : List Oper} : ∀ {rest : List Oper} {t : List Value} {H : Heap} {r : List (List Value × Value) × List Heap × List Value × Heap}, exText P A.call ops rest t H = some r → Ev fun n => exText P (B n).call ops rest t H = some r
  | [], t, H, r, h => .of fun n => h
  | o :: rest, t, H, r, h => by
    simp only [exText] at h ⊢
    cases ho : exOne P A.call ops o t H with
    | none => rw [ho] at h; cases h
    | some p =>
      obtain ⟨v, H'⟩ := p
      rw [ho] at h
      simp only [] at h
      cases ht : exText P A.call ops rest (putA t o.dst v) H' with
      | none => rw [ht] at h; cases h
      | some q =>
        rw [ht] at h
        refine (sup_one (P := P) S ho).map2 (sup_text ht) fun n hn hm => ?_
        rw [hn]; simp only []; rw [hm]; exact h

theorem sup_stableIn {ops : List Oper} {o : Oper} {t : List Value} {v : Value} : ∀ {Hs : List Heap}, stableIn P A.call ops o t v Hs = true → Ev fun n => stableIn P (B n).call ops o t v Hs = true
  | [], h => .of fun n => h
  | H :: Hs, h => by
    simp only [stableIn] at h ⊢
    cases ho : exOne P A.call ops o t H with
    | none => rw [ho] at h; cases h
    | some p =>
      obtain ⟨u, H'⟩ := p
      rw [ho] at h
      simp only [] at h
      cases hd : decV u v with
      | isFalse hf => rw [hd] at h; cases h
      | isTrue ht =>
        rw [hd] at h
        refine (sup_one (P := P) S ho).map2 (sup_stableIn h) fun n hn hm => ?_
        rw [hn]; simp only []; rw [hd]; exact hm

theorem sup_stableAll {ops : List Oper} {Ms : List Heap} : ∀ {pl : List (Option (Nat × Nat))} {os : List Oper} {tr : List (List Value × Value)}, stableAll P A.call ops Ms pl os tr = true → Ev fun n => stableAll P (B n).call ops Ms pl os tr = true
  | [], _, _, h => .of fun n => by simp [stableAll]
  | none :: pl, [], _, h => .of fun n => by simp [stableAll]
  | some (a, b) :: pl, [], _, h => .of fun n => by simp [stableAll]
  | none :: pl, _ :: _, [], h => .of fun n => by simp [stableAll]
  | some (a, b) :: pl, _ :: _, [], h => .of fun n => by simp [stableAll]
  | none :: pl, o :: os, (t, v) :: tr, h => by
    simp only [stableAll] at h ⊢
    exact sup_stableAll h
  | some (a, b) :: pl, o :: os, (t, v) :: tr, h => by
    simp only [stableAll, Bool.and_eq_true] at h ⊢
    exact (sup_stableIn (P := P) S h.1).map2 (sup_stableAll h.2) fun n h1 h2 => ⟨h1, h2⟩

theorem sup_free {ops : List Oper} {s : St} {H : Heap} {r : ExA × St × Heap} (h : exFree P A.call ops s H = some r) : Ev fun n => exFree P (B n).call ops s H = some r :=
  ev_free (fun _ _ _ _ h => S.call h) h
theorem sup_late2 {ops : List Oper} {q : LateQ} {s : St} {H : Heap} {r : ExA × St × Heap} (h : exLate2 P A.call ops q s H = some r) : Ev fun n => exLate2 P (B n).call ops q s H = some r := by
  unfold exLate2 at h ⊢
  cases hz : zeroT P q.ty with
  | none => rw [hz] at h; cases h
  | some z =>
    cases hp : planOf P (lateA ops) with
    | none => rw [hz, hp] at h; cases h
    | some pl =>
      rw [hz, hp] at h
      simp only [] at h ⊢
      cases ht : exText P A.call (lateA ops) (lateA ops) s.t (H.push .dead) with
      | none => rw [ht] at h; cases h
      | some k =>
        obtain ⟨tr, hs, t', H2⟩ := k
        rw [ht] at h
        simp only [] at h
        cases hst : stableAll P A.call (lateA ops) (H.push .dead :: hs) pl (lateA ops) tr with
        | false => rw [hst] at h; cases h
        | true =>
          rw [hst] at h
          refine (sup_text (P := P) S ht).map2 (sup_stableAll (P := P) S hst) fun n hn hm => ?_
          rw [hn]; simp only []; rw [hm]; exact h
theorem sup_noplan {ops : List Oper} {s : St} {H : Heap} {r : ExA × St × Heap} (h : exNoPlan P A.call ops s H = some r) : Ev fun n => exNoPlan P (B n).call ops s H = some r := by
  unfold exNoPlan at h ⊢
  cases hl : lateAt ops with
  | none => rw [hl] at h; exact sup_free (P := P) S h
  | some q => rw [hl] at h; exact sup_late2 (P := P) S h
theorem sup_draw {ops : List Oper} {s : St} {H : Heap} {r : ExA × St × Heap} (h : exDraw P A.call ops s H = some r) : Ev fun n => exDraw P (B n).call ops s H = some r := by
  unfold exDraw at h ⊢
  cases hp : planOf P ops with
  | none => rw [hp] at h; exact sup_noplan (P := P) S h
  | some pl =>
    rw [hp] at h
    simp only [] at h ⊢
    cases ht : exText P A.call ops ops s.t H with
    | none => rw [ht] at h; cases h
    | some q =>
      obtain ⟨tr, hs, t', H2⟩ := q
      rw [ht] at h
      simp only [] at h
      cases hst : stableAll P A.call ops (H :: hs) pl ops tr with
      | false => rw [hst] at h; cases h
      | true =>
        rw [hst] at h
        refine (sup_text (P := P) S ht).map2 (sup_stableAll (P := P) S hst) fun n hn hm => ?_
        rw [hn]; simp only []; rw [hm]; exact h

theorem sup_code {c : Code} {s : St} {H : Heap} {r : ExA × St × Heap} (h : exCode P A (exDraw P A.call) c s H = some r) : Ev fun n => exCode P (B n) (exDraw P (B n).call) c s H = some r := by
  have thn : ∀ {c : Code} {d : St → Heap → ResA} {d' : Nat → St → Heap → ResA} (hd : ∀ s H r, d s H = some r → Ev fun n => d' n s H = some r) {s : St} {H : Heap} {r : ExA × St × Heap},
      (match A.code c s H with | some (.normal, s', H') => d s' H' | x => x) = some r → Ev fun n => (match (B n).code c s H with | some (.normal, s', H') => d' n s' H' | x => x) = some r := by
    intro c d d' hd s H r h
    obtain ⟨e, s', H', k1, k2, k3⟩ := next_some (e2 := r.1) (s2 := r.2.1) (H2 := r.2.2) h
    by_cases he : e = .normal
    · subst he
      refine (S.code k1).map2 (hd _ _ _ (k2 rfl)) fun n h1 h2 => ?_
      rw [h1]; exact h2
    · obtain ⟨e1, e2, e3⟩ := k3 he
      refine (S.code k1).map fun n h1 => ?_
      rw [h1]
      cases e <;> first | exact absurd rfl he | (simp only [← e1, ← e2, ← e3])
  cases c with
  | region id ops draw =>
    cases draw with
    | false => exact sup_list (P := P) S h
    | true => exact sup_draw (P := P) S h
  | seq a b => exact thn (fun s H r h => S.code h) h
  | cond x a b =>
    simp only [exCode] at h ⊢
    split at h
    · exact S.code h
    · exact S.code h
    · cases h
  | block id c =>
    simp only [exCode] at h ⊢
    cases hc : A.code c s H with
    | none => rw [hc] at h; cases h
    | some p =>
      rw [hc] at h
      refine (S.code hc).map fun n hn => ?_
      rw [hn]; exact h
  | loop c => exact thn (fun s H r h => S.code h) h
  | scope c => exact S.scope h
  | _ => exact .of fun n => h

theorem sup_scope {b c : Code} {s : St} {H : Heap} {r : ExA × St × Heap} (h : exScope A b c s H = some r) : Ev fun n => exScope (B n) b c s H = some r := by
  unfold exScope at h ⊢
  cases hc : A.code c s H with
  | none => rw [hc] at h; cases h
  | some p =>
    obtain ⟨e, s', H'⟩ := p
    rw [hc] at h
    cases e with
    | goto l =>
      simp only [] at h
      cases hf : findLabel b l with
      | none => rw [hf] at h; exact (S.code hc).map fun n hn => by rw [hn]; simp only [hf]; exact h
      | some rest =>
        rw [hf] at h
        exact (S.code hc).map2 (S.scope h) fun n hn hm => by rw [hn]; simp only [hf]; exact hm
    | _ => exact (S.code hc).map fun n hn => by rw [hn]; exact h

theorem sup_late {f : FuncId} {args : List Value} {H H' : Heap} (h : exLate P E A f args H = some H') : Ev fun n => exLate P E (B n) f args H = some H' := by
  unfold exLate at h ⊢
  cases he : E.has f with
  | true => rw [he] at h; cases h
  | false =>
    rw [he] at h
    simp only [] at h ⊢
    cases hf : P.funcs[f]? with
    | none => rw [hf] at h; cases h
    | some fn =>
      rw [hf] at h
      simp only [] at h ⊢
      cases hb : fn.body with
      | none => rw [hb] at h; cases h
      | some c =>
        rw [hb] at h
        simp only [] at h ⊢
        cases hrec : isRec P fn c with
        | true => rw [hrec] at h; exact .of fun n => h
        | false =>
        rw [hrec] at h
        simp only [] at h ⊢
        cases hn : fn.name == "runtime.NumGoroutine" with
        | true => rw [hn] at h; cases h
        | false =>
          rw [hn] at h
          simp only [] at h ⊢
          cases hc : A.code c ⟨slotsAt fn args, []⟩ H with
          | none => rw [hc] at h; cases h
          | some p =>
            rw [hc] at h
            exact (S.code hc).map fun n hn => by rw [hn]; exact h

theorem sup_leave : ∀ {ds : List (FuncId × List Value)} {H H' : Heap}, exLeave P E A ds H = some H' → Ev fun n => exLeave P E (B n) ds H = some H'
  | [], H, H', h => .of fun n => h
  | d :: ds, H, H', h => by
    simp only [exLeave] at h ⊢
    cases hl : exLate P E A d.1 d.2 H with
    | none => rw [hl] at h; cases h
    | some H1 =>
      rw [hl] at h
      exact (sup_late (P := P) S hl).map2 (sup_leave h) fun n h1 h2 => by rw [h1]; exact h2

theorem sup_call {f : FuncId} {args : List Value} {H : Heap} {r : Out × Heap} (h : exCall P E A f args H = some r) : Ev fun n => exCall P E (B n) f args H = some r := by
  unfold exCall at h ⊢
  cases he : E.has f with
  | true => rw [he] at h; exact .of fun n => h
  | false =>
    rw [he] at h
    simp only [] at h ⊢
    cases hf : P.funcs[f]? with
    | none => rw [hf] at h; cases h
    | some fn =>
      rw [hf] at h
      simp only [] at h ⊢
      cases hb : fn.body with
      | none => rw [hb] at h; cases h
      | some c =>
        rw [hb] at h
        simp only [] at h ⊢
        cases hn : fn.name == "runtime.NumGoroutine" with
        | true => rw [hn] at h; cases h
        | false =>
          rw [hn] at h
          simp only [] at h ⊢
          unfold exBody at h ⊢
          cases hc : A.code c ⟨slotsAt fn args, []⟩ H with
          | none => rw [hc] at h; cases h
          | some p =>
            obtain ⟨e, s, H1⟩ := p
            rw [hc] at h
            simp only [] at h
            cases hl : exLeave P E A s.ds H1 with
            | none => rw [hl] at h; cases h
            | some H2 =>
              rw [hl] at h
              refine (S.code hc).map2 (sup_leave (P := P) S hl) fun n h1 h2 => ?_
              rw [h1]; simp only []; rw [h2]; exact h
end

end Go.Vm

namespace Go.Vm
set_option linter.unusedSimpArgs false
set_option linter.unusedVariables false
variable {P : Program} {E : Hooks}

theorem sup_step {A B : Runs} (S : Sup A fun _ => B) : Sup ⟨exCall P E A, exCode P A (exDraw P A.call), exScope A⟩ fun _ => ⟨exCall P E B, exCode P B (exDraw P B.call), exScope B⟩ :=
  ⟨fun h => sup_call S h, fun h => sup_code S h, fun h => sup_scope S h⟩

theorem runs_succ (n : Nat) : runs P E (n + 1) = ⟨exCall P E (runs P E n), exCode P (runs P E n) (exDraw P (runs P E n).call), exScope (runs P E n)⟩ := rfl

theorem runs_mono1 : ∀ n, Sup (runs P E n) fun _ => runs P E (n + 1)
  | 0 => ⟨fun h => by simp [runs] at h, fun h => by simp [runs] at h, fun h => by simp [runs] at h⟩
  | n + 1 => by
    have := sup_step (P := P) (E := E) (runs_mono1 n)
    rw [runs_succ n, runs_succ (n + 1)]
    exact this

theorem Ev.const {p : Prop} (h : Ev fun _ => p) : p := let ⟨m, hm⟩ := h; hm m (Nat.le_refl m)

theorem runs_mono (n : Nat) : Sup (runs P E n) (runs P E) := by
  have key : ∀ k, Sup (runs P E n) fun _ => runs P E (n + k) := by
    intro k
    induction k with
    | zero => exact ⟨fun h => .of fun _ => h, fun h => .of fun _ => h, fun h => .of fun _ => h⟩
    | succ k ih =>
      have s := runs_mono1 (P := P) (E := E) (n + k)
      exact ⟨fun h => .of fun _ => (s.call (ih.call h).const).const, fun h => .of fun _ => (s.code (ih.code h).const).const, fun h => .of fun _ => (s.scope (ih.scope h).const).const⟩
  refine ⟨fun h => ⟨n, fun m hm => ?_⟩, fun h => ⟨n, fun m hm => ?_⟩, fun h => ⟨n, fun m hm => ?_⟩⟩
  · have := ((key (m - n)).call h).const; rwa [show n + (m - n) = m by omega] at this
  · have := ((key (m - n)).code h).const; rwa [show n + (m - n) = m by omega] at this
  · have := ((key (m - n)).scope h).const; rwa [show n + (m - n) = m by omega] at this

open Classical in
noncomputable def lim {α : Type} (g : Nat → Option α) : Option α := if h : ∃ n, (g n).isSome = true then g (Classical.choose h) else none

theorem lim_some {α : Type} {g : Nat → Option α} {r : α} (h : lim g = some r) : ∃ n, g n = some r := by
  unfold lim at h
  split at h
  · exact ⟨_, h⟩
  · cases h
theorem lim_of {α : Type} {g : Nat → Option α} {r : α} (hm : ∀ n r, g n = some r → Ev fun m => g m = some r) {n : Nat} (h : g n = some r) : lim g = some r := by
  have hx : ∃ n, (g n).isSome = true := ⟨n, by rw [h]; rfl⟩
  unfold lim
  rw [dif_pos hx]
  obtain ⟨m, hm'⟩ := hm n r h
  have h1 := Classical.choose_spec hx
  cases hc : g (Classical.choose hx) with
  | none => rw [hc] at h1; cases h1
  | some r' =>
    obtain ⟨m2, hm2⟩ := hm _ r' hc
    have a : g (max m m2) = some r := hm' (max m m2) (by omega)
    have b : g (max m m2) = some r' := hm2 (max m m2) (by omega)
    rw [a] at b
    exact b.symm

/-- The run, without a bound on its steps. -/
noncomputable def run (P : Program) (E : Hooks) : Runs :=
  ⟨fun f args H => lim fun n => (runs P E n).call f args H, fun c s H => lim fun n => (runs P E n).code c s H, fun b c s H => lim fun n => (runs P E n).scope b c s H⟩

theorem runs_run (n : Nat) : Sup (runs P E n) fun _ => run P E :=
  ⟨fun h => .of fun _ => lim_of (fun n r h => (runs_mono n).call h) h, fun h => .of fun _ => lim_of (fun n r h => (runs_mono n).code h) h, fun h => .of fun _ => lim_of (fun n r h => (runs_mono n).scope h) h⟩
theorem run_runs : Sup (run P E) (runs P E) :=
  ⟨fun h => let ⟨n, hn⟩ := lim_some h; (runs_mono n).call hn, fun h => let ⟨n, hn⟩ := lim_some h; (runs_mono n).code hn, fun h => let ⟨n, hn⟩ := lim_some h; (runs_mono n).scope hn⟩

theorem lim_eq {α : Type} {g : Nat → Option α} {x : Option α} (h0 : g 0 = none) (h1 : ∀ n r, g (n + 1) = some r → x = some r) (h2 : ∀ r, x = some r → Ev fun n => g (n + 1) = some r)
    (hm : ∀ n r, g n = some r → Ev fun m => g m = some r) : lim g = x := by
  cases hl : lim g with
  | some r =>
    obtain ⟨n, hn⟩ := lim_some hl
    cases n with
    | zero => rw [h0] at hn; cases hn
    | succ n => exact (h1 n r hn).symm
  | none =>
    cases x with
    | none => rfl
    | some r =>
      obtain ⟨m, hm'⟩ := h2 r rfl
      have := lim_of hm (hm' m (Nat.le_refl m))
      rw [this] at hl; cases hl

theorem run_call (f : FuncId) (args : List Value) (H : Heap) : (run P E).call f args H = exCall P E (run P E) f args H :=
  lim_eq rfl (fun n r h => (sup_call (runs_run n) h).const) (fun r h => sup_call run_runs h) fun n r h => (runs_mono n).call h
theorem run_code (c : Code) (s : St) (H : Heap) : (run P E).code c s H = exCode P (run P E) (exDraw P (run P E).call) c s H :=
  lim_eq rfl (fun n r h => (sup_code (runs_run n) h).const) (fun r h => sup_code run_runs h) fun n r h => (runs_mono n).code h
theorem run_scope (b c : Code) (s : St) (H : Heap) : (run P E).scope b c s H = exScope (run P E) b c s H :=
  lim_eq rfl (fun n r h => (sup_scope (runs_run n) h).const) (fun r h => sup_scope run_runs h) fun n r h => (runs_mono n).scope h

theorem run_of_runs {n : Nat} {f : FuncId} {args : List Value} {H : Heap} {r : Out × Heap} (h : (runs P E n).call f args H = some r) : (run P E).call f args H = some r := ((runs_run n).call h).const

theorem run_sound {N : Th} {W0 : World} (hm : P.follows .mixedOrders = true) (hE : ∀ N W0, CallOK P N W0 E.run) : CallOK P N W0 (run P E).call := by
  intro f args H out H' h
  obtain ⟨n, hn⟩ := lim_some h
  exact runs_sound hm hE n f args H out H' hn

end Go.Vm
