/- What is proved: rules by which a run is walked: what is asked behind a piece of code is asked of the piece; no theorem of the program. -/
import Derived.Test.YtbjcfdopkaekjaaVmM
namespace Go.Vm
open Go.RowKit
set_option linter.unusedSimpArgs false
set_option linter.unusedVariables false
variable {P : Program} {E : Hooks}

/-! ### What is asked behind a piece -/
abbrev QA := ExA → St → Heap → Prop
def bindQ (k : St → Heap → ResA) (Q : QA) (_ : Held k) : QA := fun e s H => match e with
  | .normal => Ends (k s H) Q
  | e => Q e s H
def blockQ (id : Nat) (Q : QA) : QA := fun e s H => match e with
  | .exit i => if i = id then Q .normal s H else Q (.exit i) s H
  | e => Q e s H
def stepQ (s : St) (k : Value → Heap → ResA) (Q : QA) (_ : Held k) : Out → Heap → Prop := fun o H => match o with
  | .val v => Ends (k v H) Q
  | .pan v => Q (.pan v) s H
def resQ (Q : Out → Heap → Prop) (H : Heap) : Option (List Value) → Prop
  | some l => Q (.val (tupleOf l)) H
  | none => False
def bodyQ (P : Program) (E : Hooks) (r : Runs) (rs : List ResultVar) (Q : Out → Heap → Prop) : QA := fun e s H =>
  match exLeave P E r s.ds H with
  | some H2 => match e with
    | .pan v => recs P s.ds = false ∧ Q (.pan v) H2
    | .normal | .ret => resQ Q H2 (exResults P rs s.t H2)
    | _ => False
  | none => False

@[simp] theorem bindQ_normal (k : St → Heap → ResA) (Q : QA) (h : Held k) (s : St) (H : Heap) : bindQ k Q h .normal s H = Ends (k s H) Q := id rfl
@[simp] theorem bindQ_exit (k : St → Heap → ResA) (Q : QA) (h : Held k) (i : Nat) (s : St) (H : Heap) : bindQ k Q h (.exit i) s H = Q (.exit i) s H := id rfl
@[simp] theorem bindQ_goto (k : St → Heap → ResA) (Q : QA) (h : Held k) (i : Nat) (s : St) (H : Heap) : bindQ k Q h (.goto i) s H = Q (.goto i) s H := id rfl
@[simp] theorem bindQ_ret (k : St → Heap → ResA) (Q : QA) (h : Held k) (s : St) (H : Heap) : bindQ k Q h .ret s H = Q .ret s H := id rfl
@[simp] theorem bindQ_pan (k : St → Heap → ResA) (Q : QA) (h : Held k) (v : Value) (s : St) (H : Heap) : bindQ k Q h (.pan v) s H = Q (.pan v) s H := id rfl
@[simp] theorem blockQ_exit (id : Nat) (Q : QA) (i : Nat) (s : St) (H : Heap) : blockQ id Q (.exit i) s H = if i = id then Q .normal s H else Q (.exit i) s H := _root_.id rfl
@[simp] theorem blockQ_normal (id : Nat) (Q : QA) (s : St) (H : Heap) : blockQ id Q .normal s H = Q .normal s H := _root_.id rfl
@[simp] theorem blockQ_goto (id : Nat) (Q : QA) (i : Nat) (s : St) (H : Heap) : blockQ id Q (.goto i) s H = Q (.goto i) s H := _root_.id rfl
@[simp] theorem blockQ_ret (id : Nat) (Q : QA) (s : St) (H : Heap) : blockQ id Q .ret s H = Q .ret s H := _root_.id rfl
@[simp] theorem blockQ_pan (id : Nat) (Q : QA) (v : Value) (s : St) (H : Heap) : blockQ id Q (.pan v) s H = Q (.pan v) s H := _root_.id rfl
@[simp] theorem stepQ_val (s : St) (k : Value → Heap → ResA) (Q : QA) (h : Held k) (v : Value) (H : Heap) : stepQ s k Q h (.val v) H = Ends (k v H) Q := id rfl
@[simp] theorem stepQ_pan (s : St) (k : Value → Heap → ResA) (Q : QA) (h : Held k) (v : Value) (H : Heap) : stepQ s k Q h (.pan v) H = Q (.pan v) s H := id rfl
@[simp] theorem resQ_some (Q : Out → Heap → Prop) (H : Heap) (l : List Value) : resQ Q H (some l) = Q (.val (tupleOf l)) H := id rfl
@[simp] theorem bodyQ_ret (r : Runs) (rs : List ResultVar) (Q : Out → Heap → Prop) (t : List Value) (H : Heap) : bodyQ P E r rs Q .ret ⟨t, []⟩ H = resQ Q H (exResults P rs t H) := id rfl
@[simp] theorem bodyQ_normal (r : Runs) (rs : List ResultVar) (Q : Out → Heap → Prop) (t : List Value) (H : Heap) : bodyQ P E r rs Q .normal ⟨t, []⟩ H = resQ Q H (exResults P rs t H) := id rfl
@[simp] theorem bodyQ_pan (r : Runs) (rs : List ResultVar) (Q : Out → Heap → Prop) (v : Value) (t : List Value) (H : Heap) : bodyQ P E r rs Q (.pan v) ⟨t, []⟩ H = Q (.pan v) H := by
  show (recs P [] = false ∧ Q (.pan v) H) = Q (.pan v) H
  exact propext ⟨fun h => h.2, fun h => ⟨rfl, h⟩⟩

theorem Ends_none {Q : QA} : ¬ Ends none Q := fun ⟨_, _, _, h, _⟩ => by cases h
theorem Gives_none {Q : Out → Heap → Prop} : ¬ Gives none Q := fun ⟨_, _, h, _⟩ => by cases h
@[simp] theorem ends_then (r : ResA) (k : St → Heap → ResA) (h : Held k) (Q : QA) : Ends (thenA r k h) Q = Ends r (bindQ k Q h) := by
  refine propext ?_
  cases r with
  | none => exact ⟨fun h => (Ends_none h).elim, fun h => (Ends_none h).elim⟩
  | some p =>
    obtain ⟨e, s, H⟩ := p
    rw [Ends_some]
    cases e with
    | normal => exact Iff.rfl
    | _ => exact Ends_some _ _ _ _
@[simp] theorem ends_block (id : Nat) (r : ResA) (Q : QA) : Ends (blockA id r) Q = Ends r (blockQ id Q) := by
  refine propext ?_
  cases r with
  | none => exact ⟨fun h => (Ends_none h).elim, fun h => (Ends_none h).elim⟩
  | some p =>
    obtain ⟨e, s, H⟩ := p
    rw [Ends_some]
    cases e with
    | exit i =>
      rw [blockQ_exit, blockA_exit]
      split <;> exact Ends_some _ _ _ _
    | _ => exact Ends_some _ _ _ _
@[simp] theorem ends_step (r : Option (Out × Heap)) (s : St) (k : Value → Heap → ResA) (h : Held k) (Q : QA) : Ends (stepO r s k h) Q = Gives r (stepQ s k Q h) := by
  refine propext ?_
  cases r with
  | none => exact ⟨fun h => (Ends_none h).elim, fun h => (Gives_none h).elim⟩
  | some p =>
    obtain ⟨o, H⟩ := p
    rw [Gives_some]
    cases o with
    | val v => exact Iff.rfl
    | pan v => exact Ends_some _ _ _ _
@[simp] theorem gives_body (r : Runs) (rs : List ResultVar) (x : ResA) (Q : Out → Heap → Prop) : Gives (bodyA P E r rs x) Q = Ends x (bodyQ P E r rs Q) := by
  refine propext ?_
  cases x with
  | none => exact ⟨fun h => (Gives_none h).elim, fun h => (Ends_none h).elim⟩
  | some p =>
    obtain ⟨e, s, H⟩ := p
    rw [Ends_some]
    unfold bodyA bodyQ
    simp only []
    cases exLeave P E r s.ds H with
    | none => exact ⟨fun h => (Gives_none h).elim, fun h => h.elim⟩
    | some H2 =>
      simp only []
      cases e with
      | pan v =>
        simp only []
        cases recs P s.ds with
        | true => exact ⟨fun h => (Gives_none h).elim, fun h => by cases h.1⟩
        | false => exact ⟨fun h => ⟨rfl, by rwa [Gives_some] at h⟩, fun h => by rw [Gives_some]; exact h.2⟩
      | normal => cases exResults P rs s.t H2 with
        | none => exact ⟨fun h => (Gives_none h).elim, fun h => h.elim⟩
        | some l => exact Gives_some _ _ _
      | ret => cases exResults P rs s.t H2 with
        | none => exact ⟨fun h => (Gives_none h).elim, fun h => h.elim⟩
        | some l => exact Gives_some _ _ _
      | _ => exact ⟨fun h => (Gives_none h).elim, fun h => h.elim⟩

/-- Two ways. -/
theorem ends_cond {b : Bool} {x y : ResA} {hx : Held x} {hy : Held y} {Q : QA} (h1 : b = true → Ends x Q) (h2 : b = false → Ends y Q) : Ends (condA (some (.bool b)) x y hx hy) Q := by
  cases b
  · exact h2 rfl
  · exact h1 rfl
/-- A region whose order is drawn, in the order of the text. -/
theorem ends_only {r : ResA} {Q : QA} (h : Ends r fun e s H => e = .normal ∧ Q .normal s H) : Ends (onlyNormal r) Q := by
  obtain ⟨e, s, H, rfl, rfl, h2⟩ := h
  exact ⟨_, _, _, rfl, h2⟩

/-! ### Loops -/
def AllRd (t t0 : List Value) : List Nat → Prop
  | [] => True
  | k :: ks => rd t k = rd t0 k ∧ AllRd t t0 ks
@[simp] theorem AllRd_nil (t t0 : List Value) : AllRd t t0 [] = True := id rfl
@[simp] theorem AllRd_cons (t t0 : List Value) (k : Nat) (ks : List Nat) : AllRd t t0 (k :: ks) = (rd t k = rd t0 k ∧ AllRd t t0 ks) := id rfl
theorem Kept.all {ds : List Nat} {t0 t : List Value} (h : Kept ds t0 t) : ∀ (ks : List Nat), (ks.all fun k => !ds.elem k) = true → AllRd t t0 ks
  | [], _ => trivial
  | k :: ks, hk => by
    simp only [List.all_cons, Bool.and_eq_true, Bool.not_eq_true'] at hk
    exact ⟨h.2 k (by intro hm; have := List.elem_iff.2 hm; rw [hk.1] at this; cases this), h.all ks hk.2⟩

/-- What is asked behind one round. -/
def roundQ (ds : List Nat) (t0 : List Value) (I : Nat → List Value → Heap → Prop) (m : Nat) (Q : QA) : QA := fun e s H => match e with
  | .normal => s.ds = [] ∧ ∃ m', m' < m ∧ I m' s.t H
  | e => Q e s H
section
variable (ds : List Nat) (t0 : List Value) (I : Nat → List Value → Heap → Prop) (m : Nat) (Q : QA)
@[simp] theorem roundQ_normal (s : St) (H : Heap) : roundQ ds t0 I m Q .normal s H = (s.ds = [] ∧ ∃ m', m' < m ∧ I m' s.t H) := id rfl
@[simp] theorem roundQ_exit (i : Nat) (s : St) (H : Heap) : roundQ ds t0 I m Q (.exit i) s H = Q (.exit i) s H := id rfl
@[simp] theorem roundQ_goto (i : Nat) (s : St) (H : Heap) : roundQ ds t0 I m Q (.goto i) s H = Q (.goto i) s H := id rfl
@[simp] theorem roundQ_ret (s : St) (H : Heap) : roundQ ds t0 I m Q .ret s H = Q .ret s H := id rfl
@[simp] theorem roundQ_pan (v : Value) (s : St) (H : Heap) : roundQ ds t0 I m Q (.pan v) s H = Q (.pan v) s H := id rfl
end

theorem loop_wp {c : Code} {t0 : List Value} {H0 : Heap} {Q : QA} (I : Nat → List Value → Heap → Prop) (m0 : Nat) (h0 : I m0 t0 H0)
    (step : ∀ m t H, Kept (dstsOf c) t0 t → I m t H → Ends ((run P E).code c ⟨Fr t [], []⟩ H) (roundQ (dstsOf c) t0 I m Q)) : Ends ((run P E).code (.loop c) ⟨t0, []⟩ H0) Q := by
  refine loop_ends (fun m t H => Kept (dstsOf c) t0 t ∧ I m t H) ?_ m0 t0 H0 ⟨Kept.refl _ _, h0⟩
  rintro m t H ⟨hk, hI⟩
  obtain ⟨e, s, H', h1, h2⟩ := step m t H hk hI
  rw [Fr_nil] at h1
  refine ⟨e, s, H', h1, ?_⟩
  cases e with
  | normal => rw [roundQ_normal] at h2; obtain ⟨h3, m', h4, h5⟩ := h2; exact .inl ⟨rfl, h3, m', h4, hk.trans (kept_run h1), h5⟩
  | _ => exact .inr ⟨(fun h => by cases h), h2⟩

/-- The same of a loop within a scope (a goto that leads back). -/
theorem Gives.and {r : Option (Out × Heap)} {Q Q' : Out → Heap → Prop} (h : Gives r Q) (h' : Gives r Q') : Gives r fun o H => Q o H ∧ Q' o H := by
  obtain ⟨o, H, h1, h2⟩ := h
  obtain ⟨o', H', h3, h4⟩ := h'
  rw [h1] at h3
  simp only [Option.some.injEq, Prod.mk.injEq] at h3
  obtain ⟨rfl, rfl⟩ := h3
  exact ⟨o, H, h1, h2, h4⟩
theorem Gives.eq {r : Option (Out × Heap)} {o : Out} {H : Heap} (h : r = some (o, H)) {Q : Out → Heap → Prop} (q : Q o H) : Gives r Q := ⟨o, H, h, q⟩
theorem Gives.val {r : Option (Out × Heap)} {v : Value} {Q : Heap → Prop} (h : Gives r fun o H => o = .val v ∧ Q H) : ∃ H', r = some (.val v, H') ∧ Q H' := by
  obtain ⟨o, H, h1, rfl, h2⟩ := h
  exact ⟨H, h1, h2⟩
theorem Ends.after {r : ResA} {Q Q' : QA} (h : Ends r Q) (k : ∀ e s H, r = some (e, s, H) → Q e s H → Q' e s H) : Ends r Q' := by
  obtain ⟨e, s, H, h1, h2⟩ := h
  exact ⟨e, s, H, h1, k e s H h1 h2⟩
end Go.Vm

namespace Go.Vm
open Go.RowKit
set_option linter.unusedSimpArgs false
set_option linter.unusedVariables false
variable {P : Program}

/-! ### Hooks put together; whole numbers of sync/atomic -/
def CallOKAt (P : Program) (N : Th) (W0 : World) (f : FuncId) (g : List Value → Heap → Option (Out × Heap)) : Prop :=
  ∀ args H out H', g args H = some (out, H') → ∀ L w args', Sim N W0 L H w → LR L args args' →
    CallsX P f ⟨args'⟩ w fun e w' => ∃ L', L.le L' ∧ Sim N W0 L' H' w' ∧ OutRel L' out e
def hookAt (f0 : FuncId) (g : List Value → Heap → Option (Out × Heap)) (E : Hooks) : Hooks :=
  ⟨fun f => match Nat.beq f f0 with | true => true | false => E.has f, fun f args H => match Nat.beq f f0 with | true => g args H | false => E.run f args H⟩
theorem hookAt_ok {N : Th} {W0 : World} {f0 : FuncId} {g : List Value → Heap → Option (Out × Heap)} {E : Hooks} (h : CallOKAt P N W0 f0 g) (hE : CallOK P N W0 E.run) : CallOK P N W0 (hookAt f0 g E).run := by
  intro f args H out H' hr
  simp only [hookAt] at hr
  cases hb : Nat.beq f f0 with
  | true =>
    rw [hb] at hr
    have := Nat.eq_of_beq_eq_true hb
    subst this
    exact h args H out H' hr
  | false => rw [hb] at hr; exact hE f args H out H' hr

def atomLoad (args : List Value) (H : Heap) : Option (Out × Heap) :=
  match args with
  | [.pointer (some ⟨id, off, none⟩)] => match H.get id with
    | .row _ _ _ cs => match cs[off]? with
      | some (.int .i64 x) => some (.val (.int .i64 x), H)
      | _ => none
    | _ => none
  | _ => none
def atomPut (ret : Bool) (add : Bool) (args : List Value) (H : Heap) : Option (Out × Heap) :=
  match args with
  | [.pointer (some ⟨id, off, none⟩), .int .i64 y] => match H.get id with
    | .row true tl es cs => match cs[off]? with
      | some (.int .i64 x) =>
        let s := match add with | true => IntKind.i64.wrap (x + y) | false => y
        some (.val (match ret with | true => .int .i64 s | false => .tuple #[]), H.set id (.row true tl es (writeAt cs off [.int .i64 s])))
      | _ => none
    | _ => none
  | _ => none
theorem LR.two {L : Lay} {a b : Value} {args' : List Value} (h : LR L [a, b] args') : ∃ a' b', args' = [a', b'] ∧ VR L a a' ∧ VR L b b' := by
  match args', h with
  | [a', b'], h => exact ⟨a', b', rfl, h.2 0 (by simp) (by simp), h.2 1 (by simp) (by simp)⟩
  | [], h => exact absurd h.1 (by simp)
  | [_], h => exact absurd h.1 (by simp)
  | _ :: _ :: _ :: _, h => exact absurd h.1 (by simp)
theorem LR.one' {L : Lay} {a : Value} {args' : List Value} (h : LR L [a] args') : ∃ a', args' = [a'] ∧ VR L a a' := by
  match args', h with
  | [a'], h => exact ⟨a', rfl, h.2 0 (by simp) (by simp)⟩
  | [], h => exact absurd h.1 (by simp)
  | _ :: _ :: _, h => exact absurd h.1 (by simp)
section
variable {N : Th} {W0 : World} {f : FuncId} {fn : Func}
theorem atomLoad_ok (hf : P.funcs[f]? = some fn) (hname : (fn.name == "runtime.NumGoroutine") = false) (hb : fn.body.isNone = true) (hn : Extern.findNext fn = none)
    (he : Extern.find fn = some (Extern.Atomic.loadT (.int .i64))) : CallOKAt P N W0 f atomLoad := by
  intro args H out H' h L w args' S ha
  unfold atomLoad at h
  split at h
  · rename_i id off
    split at h
    · rename_i own tl es cs hg
      split at h
      · rename_i x hx
        simp only [Option.some.injEq, Prod.mk.injEq] at h
        obtain ⟨rfl, rfl⟩ := h
        obtain ⟨a', rfl, hva⟩ := ha.one'
        obtain ⟨b, o, t', cs', hl, hr, hlr, h1, h1', _, _⟩ := S.row hg
        cases hva with
        | ptr _ _ b2 o2 t2 hl2 =>
          rw [hl] at hl2
          simp only [Option.some.injEq, Prod.mk.injEq] at hl2
          obtain ⟨rfl, rfl, rfl⟩ := hl2
          obtain ⟨v', e, r⟩ := hlr.get? hx
          cases r with
          | int =>
            have hc := hr off _ e
            exact .inr ⟨_, w, run_call_load hf hname hb hn .i64 he hc, L, Lay.le_refl L, S, .int _ _⟩
      · cases h
    · cases h
  · cases h
theorem atomPut_core {L : Lay} {H : Heap} {w : World} (S : Sim N W0 L H w) {id off b o t tl es : Nat} {cs : List Value} {x s : Int} (hg : H.get id = .row true tl es cs) (hx : cs[off]? = some (.int .i64 x)) (hl : L id = some (b, o, t)) :
    w.cell? ⟨b, o + off, none⟩ = some (.int .i64 x) ∧ w.frozen? ⟨b, o + off, none⟩ = false ∧ Sim N W0 L (H.set id (.row true tl es (writeAt cs off [.int .i64 s]))) (w.setCell ⟨b, o + off, none⟩ (.int .i64 s)) := by
  obtain ⟨b', o', t', cs', hl', hr, hlr, h1, h1', _, hown⟩ := S.row hg
  rw [hl] at hl'
  simp only [Option.some.injEq, Prod.mk.injEq] at hl'
  obtain ⟨rfl, rfl, rfl⟩ := hl'
  obtain ⟨v', e, r⟩ := hlr.get? hx
  cases r with
  | int =>
    have hlt : off < cs.length := (List.getElem?_eq_some_iff.1 hx).1
    refine ⟨hr off _ e, ?_, ?_⟩
    · exact ((hown rfl).2.2 off (by omega)).2
    · exact S.write hg hl off (vs := [.int .i64 s]) (vs' := [.int .i64 s]) (groundL_LR L _ rfl) (fun i hi => by cases i with | zero => rfl | succ i => simp at hi) (by simp; omega)
theorem atomStore_ok (hf : P.funcs[f]? = some fn) (hname : (fn.name == "runtime.NumGoroutine") = false) (hb : fn.body.isNone = true) (hn : Extern.findNext fn = none)
    (he : Extern.find fn = some Extern.Atomic.storeT) : CallOKAt P N W0 f (atomPut false false) := by
  intro args H out H' h L w args' S ha
  unfold atomPut at h
  split at h
  · rename_i id off y
    split at h
    · rename_i tl es cs hg
      split at h
      · rename_i x hx
        simp only [Option.some.injEq, Prod.mk.injEq] at h
        obtain ⟨rfl, rfl⟩ := h
        obtain ⟨a', b', rfl, hva, hvb⟩ := ha.two
        cases hva with
        | ptr _ _ b2 o2 t2 hl2 =>
          cases hvb with
          | int =>
            obtain ⟨c1, c2, c3⟩ := atomPut_core S (s := y) hg hx hl2
            exact .inr ⟨_, _, run_call_store hf hname hb hn he c1 c2, L, Lay.le_refl L, c3, .tuple [] [] rfl (fun i h => by simp at h)⟩
      · cases h
    · cases h
  · cases h
theorem atomAdd_ok (hf : P.funcs[f]? = some fn) (hname : (fn.name == "runtime.NumGoroutine") = false) (hb : fn.body.isNone = true) (hn : Extern.findNext fn = none)
    (he : Extern.find fn = some (Extern.Atomic.update (Op.intArith .add) .i64 true)) : CallOKAt P N W0 f (atomPut true true) := by
  intro args H out H' h L w args' S ha
  unfold atomPut at h
  split at h
  · rename_i id off y
    split at h
    · rename_i tl es cs hg
      split at h
      · rename_i x hx
        simp only [Option.some.injEq, Prod.mk.injEq] at h
        obtain ⟨rfl, rfl⟩ := h
        obtain ⟨a', b', rfl, hva, hvb⟩ := ha.two
        cases hva with
        | ptr _ _ b2 o2 t2 hl2 =>
          cases hvb with
          | int =>
            obtain ⟨c1, c2, c3⟩ := atomPut_core S (s := IntKind.i64.wrap (x + y)) hg hx hl2
            exact .inr ⟨_, _, run_call_add hf hname hb hn .i64 he c1 c2 (by simp [Op.intArith]), L, Lay.le_refl L, c3, .int _ _⟩
      · cases h
    · cases h
  · cases h
end
end Go.Vm

namespace Go.Vm
def asI : Value → Option Int
  | .int .i64 x => some x
  | _ => none
@[simp] theorem asI_int (x : Int) : asI (.int .i64 x) = some x := id rfl
def atomGet (o : AObj) (off : Nat) : Option Int := match o with
  | .row _ _ _ cs => (cs[off]?).bind asI
  | _ => none
@[simp] theorem atomGet_row (own : Bool) (tl es : Nat) (cs : List Value) (off : Nat) : atomGet (.row own tl es cs) off = (cs[off]?).bind asI := id rfl
def atomSet (o : AObj) (off : Nat) (y : Int) : Option AObj := match o with
  | .row true tl es cs => some (.row true tl es (writeAt cs off [.int .i64 y]))
  | _ => none
@[simp] theorem atomSet_row (tl es : Nat) (cs : List Value) (off : Nat) (y : Int) : atomSet (.row true tl es cs) off y = some (.row true tl es (writeAt cs off [.int .i64 y])) := id rfl
@[simp] theorem atomLoad_eq (id off : Nat) (H : Heap) : atomLoad [.pointer (some ⟨id, off, none⟩)] H = (atomGet (H.get id) off).map fun x => (.val (.int .i64 x), H) := by
  unfold atomLoad atomGet
  simp only []
  cases H.get id with
  | row own tl es cs =>
    simp only []
    cases cs[off]? with
    | none => rfl
    | some v => cases v <;> first | rfl | (rename_i k x; cases k <;> rfl)
  | _ => rfl
@[simp] theorem atomPut_eq (ret add : Bool) (id off : Nat) (y : Int) (H : Heap) : atomPut ret add [.pointer (some ⟨id, off, none⟩), .int .i64 y] H = (atomGet (H.get id) off).bind fun x =>
    (atomSet (H.get id) off (if add = true then IntKind.i64.wrap (x + y) else y)).map fun o => (.val (if ret = true then .int .i64 (if add = true then IntKind.i64.wrap (x + y) else y) else .tuple #[]), H.set id o) := by
  unfold atomPut atomGet atomSet
  simp only []
  cases H.get id with
  | row own tl es cs =>
    cases own with
    | false =>
      simp only []
      cases cs[off]? with
      | none => rfl
      | some v => cases v <;> first | rfl | (rename_i k x; cases k <;> rfl)
    | true =>
      simp only []
      cases cs[off]? with
      | none => rfl
      | some v => cases v <;> first | rfl | (rename_i k x; cases k <;> first | rfl | (cases ret <;> cases add <;> rfl))
  | _ => rfl
theorem hook_call {P : Program} {E : Hooks} {f : FuncId} {args : List Value} {H : Heap} (h : E.has f = true) : (run P E).call f args H = E.run f args H := by
  rw [run_call]; unfold exCall; rw [h]
end Go.Vm

namespace Go.Vm
variable {P : Program} {E : Hooks}
def bodyOf (fn : Func) : Code := match fn.body with | some c => c | none => .skip
/-- A call, as its text is run. -/
noncomputable def callB (P : Program) (E : Hooks) (fn : Func) (args : List Value) (H : Heap) : Option (Out × Heap) :=
  bodyA P E (run P E) fn.results.toList ((run P E).code (bodyOf fn) ⟨Fr (Bs fn.ntmps args) [], []⟩ H)
theorem call_B {f : FuncId} {fn : Func} (hf : P.funcs[f]? = some fn) (hb : fn.body.isSome = true) (hn : (fn.name == "runtime.NumGoroutine") = false) (hE : E.has f = false) (args : List Value) (H : Heap) :
    (run P E).call f args H = callB P E fn args H := by
  unfold callB bodyOf
  cases hc : fn.body with
  | none => rw [hc] at hb; cases hb
  | some c => exact call_fn hf hc hn hE args H
end Go.Vm

namespace Go.Vm
@[simp] theorem Heap.set_set (H : Heap) (i : Nat) (o o' : AObj) : (H.set i o).set i o' = H.set i o' := by
  unfold Heap.set
  simp only [Tr.set_set]
theorem Heap.get_set_self (H : Heap) {i : Nat} (o : AObj) (h : i < H.n) : (H.set i o).get i = o := by rw [Heap.get_set _ _ _ h, if_pos rfl]
end Go.Vm

namespace Go.Vm
open Go.RowKit
set_option linter.unusedSimpArgs false
set_option linter.unusedVariables false
variable {P : Program} {E : Hooks}
/-! ### Regions whose order is drawn, as rules -/
def onlyQ (Q : QA) : QA := fun e s H => match e with | .normal => Q .normal s H | _ => False
@[simp] theorem onlyQ_normal (Q : QA) (s : St) (H : Heap) : onlyQ Q .normal s H = Q .normal s H := id rfl
@[simp] theorem ends_onlyNormal (r : ResA) (Q : QA) : Ends (onlyNormal r) Q = Ends r (onlyQ Q) := by
  refine propext ?_
  cases r with
  | none => exact ⟨fun h => (Ends_none h).elim, fun h => (Ends_none h).elim⟩
  | some p =>
    obtain ⟨e, s, H⟩ := p
    rw [Ends_some]
    cases e with
    | normal => exact Ends_some _ _ _ _
    | _ => exact ⟨fun h => (Ends_none h).elim, fun h => h.elim⟩
theorem region_quiet {ops : Array Oper} (hq : quiet P ops.toList = true) {id : Nat} {s : St} {H : Heap} {Q : QA} (h : Ends (onlyNormal (exList P (run P E).call ops.toList ops.toList s H)) Q) : Ends ((run P E).code (.region id ops true) s H) Q := by
  rw [code_draw id ops s H hq]; exact h
theorem region_plan {ops : Array Oper} {pl : List (Option (Nat × Nat))} (hp : planOf P ops.toList = some pl) {id : Nat} {s : St} {H : Heap} {Q : QA}
    (h : Ends (drawF P (run P E).call ops.toList pl H s.ds (exText P (run P E).call ops.toList ops.toList s.t H)) Q) : Ends ((run P E).code (.region id ops true) s H) Q := by
  rw [code_plan hp]; exact h
theorem region_free {ops : Array Oper} (hp : planOf P ops.toList = none) (hla : lateAt ops.toList = none) {ms : List Nat} (hm : preOf ops.toList = ms) (ho : freeOK ops.toList ms = true) {k : Nat} (hk : needAll ops.toList = k) {id : Nat} {s : St} {H : Heap} {Q : QA}
    (h : Ends (freeF ms s.ds (freeT P (run P E).call ops.toList ops.toList s.t H.n (H.room k) 0)) Q) : Ends ((run P E).code (.region id ops true) s H) Q := by
  obtain ⟨e, s', H', h1, h2⟩ := h
  exact ⟨e, s', H', code_free hp hla hm ho hk h1, h2⟩
theorem region_late {ops : Array Oper} (hp : planOf P ops.toList = none) {q : LateQ} (hla : lateAt ops.toList = some q) {pl : List (Option (Nat × Nat))} (hpl : planOf P (lateA ops.toList) = some pl) {z : Value} (hz : zeroT P q.ty = some z)
    {id : Nat} {s : St} {H : Heap} {Q : QA} (h : Ends (lateF P (run P E).call (lateA ops.toList) pl q z H s.ds (exText P (run P E).call (lateA ops.toList) (lateA ops.toList) s.t (H.push .dead))) Q) : Ends ((run P E).code (.region id ops true) s H) Q := by
  rw [code_late hp hla hpl hz]; exact h
theorem Gives.elim {r : Option (Out × Heap)} {Q : Out → Heap → Prop} (h : Gives r Q) : ∃ o H, r = some (o, H) ∧ Q o H := h
/-! ### A frame that leaves by way of 'if recover() != nil {..}' -/
section
variable {E : Hooks}
theorem leave_rec {f : FuncId} (h : recFn P f = true) (hE : E.has f = false) (r : Runs) (args : List Value) (ds : List (FuncId × List Value)) (H : Heap) : exLeave P E r ((f, args) :: ds) H = exLeave P E r ds H := by
  unfold recFn at h
  cases hf : P.funcs[f]? with
  | none => simp [hf] at h
  | some fn =>
    simp only [hf] at h
    cases hb : fn.body with
    | none => simp [hb] at h
    | some c =>
      simp only [hb] at h
      simp only [exLeave, exLate, hE, hf, hb, h]
theorem bodyQ_ret_rec {f : FuncId} (h : recFn P f = true) (hE : E.has f = false) (r : Runs) (rs : List ResultVar) (Q : Out → Heap → Prop) (t args : List Value) (H : Heap) : bodyQ P E r rs Q .ret ⟨t, [(f, args)]⟩ H = resQ Q H (exResults P rs t H) := by
  unfold bodyQ
  rw [leave_rec h hE]
  rfl
end
end Go.Vm

namespace Go.Vm
/-! ### Places of the heap, as simp decides them (to be made local simp lemmas) -/
theorem gpe {H : Heap} {j : Nat} (o : AObj) (h : decide (j = H.n) = true) : (H.push o).get j = o := by
  have h := of_decide_eq_true h; subst h; exact Heap.get_push_self _ _
theorem gpn {H : Heap} {j : Nat} (o : AObj) (h : ¬ j = H.n) : (H.push o).get j = H.get j := by rw [Heap.get_push, if_neg h]
theorem spe {H : Heap} {j : Nat} (o o' : AObj) (h : decide (j = H.n) = true) : (H.push o).set j o' = H.push o' := by
  have h := of_decide_eq_true h; subst h; simp
theorem gse {H : Heap} {i j : Nat} (o : AObj) (h : decide (j = i) = true) (hi : decide (i < H.n) = true) : (H.set i o).get j = o := by
  have h := of_decide_eq_true h; subst h; exact Heap.get_set_self _ _ (of_decide_eq_true hi)
theorem gsn {H : Heap} {i j : Nat} (o : AObj) (h : ¬ j = i) : (H.set i o).get j = H.get j := by
  unfold Heap.get
  show (match Nat.blt j H.n with | true => (Tr.set (i + 1) H.t i o).get j | false => AObj.dead) = _
  rw [Tr.get_set o (i + 1) H.t i j (Nat.lt_succ_self i), if_neg h]
  rfl
theorem ne_r0 {r n : Nat} (h : r < n) : (r = n) = False := eq_false (by omega)
theorem ne_l0 {r n : Nat} (h : r < n) : (n = r) = False := eq_false (by omega)
theorem le_s0 {r n : Nat} (h : r < n) : (r ≤ n) = True := eq_true (by omega)
theorem ne_r1 {r n : Nat} (h : r < n) : (r = n + 1) = False := eq_false (by omega)
theorem ne_l1 {r n : Nat} (h : r < n) : (n + 1 = r) = False := eq_false (by omega)
theorem lt_s1 {r n : Nat} (h : r < n) : (r < n + 1) = True := eq_true (by omega)
theorem le_s1 {r n : Nat} (h : r < n) : (r ≤ n + 1) = True := eq_true (by omega)
theorem ne_r2 {r n : Nat} (h : r < n) : (r = n + 1 + 1) = False := eq_false (by omega)
theorem ne_l2 {r n : Nat} (h : r < n) : (n + 1 + 1 = r) = False := eq_false (by omega)
theorem lt_s2 {r n : Nat} (h : r < n) : (r < n + 1 + 1) = True := eq_true (by omega)
theorem le_s2 {r n : Nat} (h : r < n) : (r ≤ n + 1 + 1) = True := eq_true (by omega)
theorem ne_r3 {r n : Nat} (h : r < n) : (r = n + 1 + 1 + 1) = False := eq_false (by omega)
theorem ne_l3 {r n : Nat} (h : r < n) : (n + 1 + 1 + 1 = r) = False := eq_false (by omega)
theorem lt_s3 {r n : Nat} (h : r < n) : (r < n + 1 + 1 + 1) = True := eq_true (by omega)
theorem le_s3 {r n : Nat} (h : r < n) : (r ≤ n + 1 + 1 + 1) = True := eq_true (by omega)
theorem ne_r4 {r n : Nat} (h : r < n) : (r = n + 1 + 1 + 1 + 1) = False := eq_false (by omega)
theorem ne_l4 {r n : Nat} (h : r < n) : (n + 1 + 1 + 1 + 1 = r) = False := eq_false (by omega)
theorem lt_s4 {r n : Nat} (h : r < n) : (r < n + 1 + 1 + 1 + 1) = True := eq_true (by omega)
theorem le_s4 {r n : Nat} (h : r < n) : (r ≤ n + 1 + 1 + 1 + 1) = True := eq_true (by omega)
theorem ne_r5 {r n : Nat} (h : r < n) : (r = n + 1 + 1 + 1 + 1 + 1) = False := eq_false (by omega)
theorem ne_l5 {r n : Nat} (h : r < n) : (n + 1 + 1 + 1 + 1 + 1 = r) = False := eq_false (by omega)
theorem lt_s5 {r n : Nat} (h : r < n) : (r < n + 1 + 1 + 1 + 1 + 1) = True := eq_true (by omega)
theorem le_s5 {r n : Nat} (h : r < n) : (r ≤ n + 1 + 1 + 1 + 1 + 1) = True := eq_true (by omega)
theorem ne_r6 {r n : Nat} (h : r < n) : (r = n + 1 + 1 + 1 + 1 + 1 + 1) = False := eq_false (by omega)
theorem ne_l6 {r n : Nat} (h : r < n) : (n + 1 + 1 + 1 + 1 + 1 + 1 = r) = False := eq_false (by omega)
theorem lt_s6 {r n : Nat} (h : r < n) : (r < n + 1 + 1 + 1 + 1 + 1 + 1) = True := eq_true (by omega)
theorem le_s6 {r n : Nat} (h : r < n) : (r ≤ n + 1 + 1 + 1 + 1 + 1 + 1) = True := eq_true (by omega)
theorem ne_r7 {r n : Nat} (h : r < n) : (r = n + 1 + 1 + 1 + 1 + 1 + 1 + 1) = False := eq_false (by omega)
theorem ne_l7 {r n : Nat} (h : r < n) : (n + 1 + 1 + 1 + 1 + 1 + 1 + 1 = r) = False := eq_false (by omega)
theorem lt_s7 {r n : Nat} (h : r < n) : (r < n + 1 + 1 + 1 + 1 + 1 + 1 + 1) = True := eq_true (by omega)
theorem le_s7 {r n : Nat} (h : r < n) : (r ≤ n + 1 + 1 + 1 + 1 + 1 + 1 + 1) = True := eq_true (by omega)
end Go.Vm
