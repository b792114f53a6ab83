/- What is proved: what a run of the abstract machine gives, the model's run gives: lists of operations; no theorem of the program. -/
import Derived.Test.YtbjcfdopkaekjaaVmE
import Derived.Orders
import Derived.Defers
import Derived.Recover
import Derived.Scope
namespace Go.Vm
open Go.RowKit
set_option linter.unusedSimpArgs false
set_option linter.unusedVariables false
variable {P : Program} {N : Th} {W0 : World} {L : Lay} {H : Heap} {w : World}

theorem vr_bool {v v' : Value} (h : VR L v v') (b : Bool) : v = .bool b ↔ v' = .bool b := by
  cases h <;> simp

theorem yielded_run {ops : Array Oper} {t : List Value} {tm : Array Value} (ht : LR L t tm.toList) (j : Nat) :
    yielded ops tm j = match (ops.toList[j]?).bind (·.dst) with
      | some d => match t[d]? with
        | some (.bool b) => some b
        | _ => none
      | none => none := by
  unfold yielded
  simp only [Array.getElem?_toList]
  cases hd : (ops[j]?).bind (·.dst) with
  | none => rfl
  | some d =>
    simp only [Option.bind_some]
    have e1 : tm[d]? = tm.toList[d]? := by simp
    rw [e1]
    cases hx : t[d]? with
    | none =>
      have : tm.toList[d]? = none := by
        rw [List.getElem?_eq_none_iff] at hx ⊢
        rw [← ht.1]; exact hx
      rw [this]
    | some v =>
      obtain ⟨v', h1, h2⟩ := ht.get? hx
      rw [h1]
      cases h2 <;> rfl

theorem wanted_run {ops : Array Oper} {t : List Value} {a : Act} (ht : LR L t a.tmps.toList) (o : Oper) :
    Region.wanted o (yielded ops a.tmps) = wantA ops.toList o t := by
  unfold Region.wanted wantA
  cases hg : o.guard with
  | none => rfl
  | some g =>
    obtain ⟨j, want⟩ := g
    simp only []
    rw [yielded_run ht j]
    cases hd : (ops.toList[j]?).bind (·.dst) with
    | none => simp
    | some d =>
      simp only []
      cases hx : t[d]? with
      | none => simp
      | some v => cases v <;> simp [Bool.eq_iff_iff]

theorem put_run {t : List Value} {a : Act} (ht : LR L t a.tmps.toList) (dst : Option Tmp) {v v' : Value} (hv : VR L v v') : LR L (putA t dst v) (a.put dst v').tmps.toList := by
  cases dst with
  | none => exact ht
  | some d =>
    simp only [putA, Act.put]
    have : (a.tmps.setIfInBounds d v').toList = a.tmps.toList.set d v' := by simp
    first
      | exact this ▸ ht.set d hv
      | simpa using ht.set d hv

/-- The deferred calls. -/
inductive DR (L : Lay) : List (FuncId × List Value) → List Deferred → Prop
  | nil : DR L [] []
  | cons (g : FuncId) (args first mid cap : List Value) (ds : List (FuncId × List Value)) (ds' : List Deferred)
      (h : LR L args (first ++ mid ++ cap)) (hs : DR L ds ds') :
      DR L ((g, args) :: ds) ({ target := .fn (.func g) ⟨cap⟩, args := ⟨first ++ mid⟩ } :: ds')

theorem DR.mono {L L' : Lay} (hl : L.le L') {x : List (FuncId × List Value)} {y : List Deferred} (h : DR L x y) : DR L' x y := by
  induction h with
  | nil => exact .nil
  | cons g args first mid cap ds ds' h _ ih => exact .cons g args first mid cap ds ds' (h.mono hl) ih

/-- Where the run stands. -/
structure Stands (N : Th) (W0 : World) (L : Lay) (s : St) (H : Heap) (a : Act) (w : World) : Prop where
  sim : Sim N W0 L H w
  tmps : LR L s.t a.tmps.toList
  defers : DR L s.ds a.defers

/-- What the abstract machine's end of a piece of code says of the model's. -/
def EndM (L : Lay) : ExA → Exit → Prop
  | .normal, .normal => True
  | .exit i, .exit j => i = j
  | .goto i, .goto j => i = j
  | .ret, .ret => True
  | .pan v, .panic ch => ∃ v', ch = [{ v := v', recovered := false }] ∧ VR L v v'
  | _, _ => False
def EndR (N : Th) (W0 : World) (L : Lay) (e : ExA) (s : St) (H : Heap) (x : Exit) (a : Act) (w : World) : Prop :=
  ∃ L', L.le L' ∧ Stands N W0 L' s H a w ∧ EndM L' e x

theorem EndM.mono {L L' : Lay} (hl : L.le L') {e : ExA} {x : Exit} (h : EndM L e x) : EndM L' e x := by
  unfold EndM at h ⊢
  split at h
  · trivial
  · exact h
  · exact h
  · trivial
  · obtain ⟨v', e, h⟩ := h
    exact ⟨v', e, h.mono hl⟩
  · exact h.elim
theorem EndR.le {L0 L : Lay} (hl : L0.le L) {e : ExA} {s : St} {H : Heap} {x : Exit} {a : Act} {w : World} (h : EndR N W0 L e s H x a w) : EndR N W0 L0 e s H x a w := by
  obtain ⟨L', h1, h2⟩ := h
  exact ⟨L', Lay.le_trans hl h1, h2⟩

theorem Stands.put {s : St} {a : Act} {L' : Lay} {H' : Heap} {w' : World} (h : Stands N W0 L s H a w) (hl : L.le L') (S : Sim N W0 L' H' w') (dst : Option Tmp) {v v' : Value} (hv : VR L' v v') :
    Stands N W0 L' ⟨putA s.t dst v, s.ds⟩ H' (a.put dst v') w' := by
  refine ⟨S, put_run (h.tmps.mono hl) dst hv, ?_⟩
  have : (a.put dst v').defers = a.defers := by cases dst <;> rfl
  rw [this]
  exact h.defers.mono hl
theorem Stands.moved {s : St} {a : Act} {L' : Lay} {H' : Heap} {w' : World} (h : Stands N W0 L s H a w) (hl : L.le L') (S : Sim N W0 L' H' w') : Stands N W0 L' s H' a w' :=
  ⟨S, h.tmps.mono hl, h.defers.mono hl⟩

theorem defer_run {c : Call} {t : List Value} {d : FuncId × List Value} (h : exDefer c t = some d) {a : Act} (ht : LR L t a.tmps.toList) (ty : TypeId) {ds : List (FuncId × List Value)} {ds' : List Deferred} (hd : DR L ds ds') (w : World) :
    ∃ d', (resolve a.eval c ty).run P w = .ok d' w ∧ DR L (d :: ds) (d' :: ds') := by
  unfold exDefer at h
  split at h
  · rename_i f args hc hargs
    split at h
    · rename_i g first captured hf
      simp only [Option.some.injEq] at h
      subst h
      have hv := evA_run hf ht
      have ha := evL_run ht hargs
      unfold resolve
      simp only [hc]
      generalize a.eval f = fv at hv
      cases hv with
      | func fn x x' y y' hx hy ex ey =>
        refine ⟨_, rfl, ?_⟩
        have : (c.args.map a.eval) = ⟨c.args.toList.map a.eval⟩ := Array.ext' (by simp)
        rw [this]
        have e : (⟨x'⟩ : Array Value) ++ (⟨c.args.toList.map a.eval⟩ : Array Value) = ⟨x' ++ c.args.toList.map a.eval⟩ := Array.ext' (by simp)
        first
          | (rw [e]; exact .cons g _ x' (c.args.toList.map a.eval) y' ds ds' (((show LR L x x' from ⟨hx, ex⟩).append ha).append (show LR L y y' from ⟨hy, ey⟩)) hd)
          | exact .cons g _ x' (c.args.toList.map a.eval) y' ds ds' (((show LR L x x' from ⟨hx, ex⟩).append ha).append (show LR L y y' from ⟨hy, ey⟩)) hd
    · cases h
  · cases h

theorem deferOf_some {o : Op} {c : Call} (h : deferOf o = some c) : o = .defer c := by
  cases o <;> simp only [deferOf, Option.some.injEq] at h <;> first | (subst h; rfl) | cases h

theorem list_run {call : CallA} (hc : CallOK P N W0 call) (ops : Array Oper) : ∀ (rest : List Oper) (i : Nat), rest = ops.toList.drop i → ∀ {s : St} {H : Heap} {e : ExA} {s' : St} {H' : Heap},
    exList P call ops.toList rest s H = some (e, s', H') → ∀ {L : Lay} {a : Act} {w : World}, Stands N W0 L s H a w → ∀ (Q : Exit → Act → World → Prop),
    (∀ x a' w', EndR N W0 L e s' H' x a' w' → Q x a' w') → wpOps P ops Q (List.range' i rest.length) a w
  | [], i, hr, s, H, e, s', H', h, L, a, w, hs, Q, hQ => by
    simp only [exList, Option.some.injEq, Prod.mk.injEq] at h
    obtain ⟨rfl, rfl, rfl⟩ := h
    simp only [List.length_nil, List.range'_zero, wpOps]
    exact hQ _ _ _ ⟨L, Lay.le_refl L, hs, trivial⟩
  | o :: rest, i, hr, s, H, e, s', H', h, L, a, w, hs, Q, hQ => by
    have hi : i < ops.toList.length := by
      rcases Nat.lt_or_ge i ops.toList.length with h1 | h1
      · exact h1
      · rw [List.drop_eq_nil_of_le h1] at hr; cases hr
    have hcons := List.drop_eq_getElem_cons hi
    rw [hcons] at hr
    simp only [List.cons.injEq] at hr
    obtain ⟨ho, hrest⟩ := hr
    have hget : ops[i]? = some o := by
      rw [← Array.getElem?_toList, List.getElem?_eq_getElem hi, ho]
    have ih := @list_run call hc ops rest (i + 1) hrest
    simp only [List.length_cons, List.range'_succ, wpOps, hget]
    rw [wanted_run hs.tmps o]
    simp only [exList] at h
    split at h
    · rename_i hw
      rw [hw]
      simp only [Bool.false_eq_true, if_false]
      exact ih h (hs.put (Lay.le_refl L) hs.sim o.dst (vr_undef L)) Q hQ
    · rename_i hw
      rw [hw]
      simp only [if_true]
      refine .inl ?_
      split at h
      · rename_i c hop0
        have hop := deferOf_some hop0
        split at h
        · rename_i d hd
          obtain ⟨d', r1, r2⟩ := defer_run (P := P) hd hs.tmps o.type hs.defers w
          unfold Oper.wp
          have he : execOp a.eval o = (do pure (.defer (← resolve a.eval c o.type))) := by simp only [execOp, hop]
          rw [he]
          simp only [Sem.run_bind, r1, Result.andThen_ok, Sem.run_pure, Oper.upon_defer]
          refine ih h ?_ Q hQ
          have := Stands.put (s := ⟨s.t, d :: s.ds⟩) (a := { a with defers := d' :: a.defers }) ⟨hs.sim, hs.tmps, r2⟩ (Lay.le_refl L) hs.sim o.dst (vr_undef L)
          exact this
        · cases h
      · split at h
        · cases h
        · rename_i v H1 hex
          simp only [Option.some.injEq, Prod.mk.injEq] at h
          obtain ⟨rfl, rfl, rfl⟩ := h
          refine op_run hc hs.sim hex hs.tmps ?_
          intro L' v' w' hl S hv
          exact hQ _ _ _ ⟨L', hl, hs.moved hl S, v', rfl, hv⟩
        · rename_i v H1 hex
          refine op_run hc hs.sim hex hs.tmps ?_
          intro L' v' w' hl S hv
          exact ih h (hs.put hl S o.dst hv) Q fun x a' w' hx => hQ x a' w' (hx.le hl)

theorem text_run {call : CallA} (hc : CallOK P N W0 call) {id : Nat} {ops : Array Oper} {s : St} {H : Heap} {e : ExA} {s' : St} {H' : Heap}
    (h : exList P call ops.toList ops.toList s H = some (e, s', H')) {L : Lay} {a : Act} {w : World} (hs : Stands N W0 L s H a w) : (Code.region id ops false).wp P (EndR N W0 L e s' H') a w := by
  refine wp_region ?_
  have := list_run hc ops ops.toList 0 (by simp) h hs (EndR N W0 L e s' H') (fun _ _ _ h => h)
  rw [List.range_eq_range']
  simpa using this

end Go.Vm

namespace Go.Vm
open Go.RowKit
set_option linter.unusedSimpArgs false
set_option linter.unusedVariables false
variable {P : Program} {N : Th} {W0 : World} {L : Lay} {H : Heap} {w : World}

/-! ### What a frame hands back -/
def resOne (tmps : Array Value) : ResultVar → Sem Value
  | .tmp t => pure (tmps.getD t undef)
  | .cell a t => do loadVar t (← asAddr (tmps.getD a undef))

theorem getD_list (tmps : Array Value) (t : Nat) : tmps.getD t undef = tmps.toList.getD t undef := by
  rw [Array.getD_eq_getD_getElem?, List.getD_eq_getElem?_getD, Array.getElem?_toList]

theorem loadVar_run {t : TypeId} {a a' v : Value} (S : Sim N W0 L H w) (h : exLoad P t a H = some v) (ha : VR L a a') :
    ∃ v', (do loadVar t (← asAddr a')).run P w = .ok v' w ∧ VR L v v' := by
  obtain ⟨v', h1, h2⟩ := load_run (P := P) S h ha
  refine ⟨v', ?_, h2⟩
  unfold exLoad at h
  split at h
  · cases ha with
    | ptr _ _ b2 o2 t2 hl2 => exact h1
  · cases h

theorem resList_run {tmps : Array Value} {ts : List Value} (S : Sim N W0 L H w) (ht : LR L ts tmps.toList) : ∀ {rs : List ResultVar} {l : List Value}, exResults P rs ts H = some l →
    ∃ l', (rs.mapM (resOne tmps)).run P w = .ok l' w ∧ LR L l l'
  | [], l, h => by
    simp only [exResults, Option.some.injEq] at h
    subst h
    exact ⟨[], rfl, LR.nil L⟩
  | .tmp t :: rs, l, h => by
    simp only [exResults, Option.map_eq_some_iff] at h
    obtain ⟨l0, h1, rfl⟩ := h
    obtain ⟨l', r1, r2⟩ := resList_run S ht h1
    refine ⟨tmps.getD t undef :: l', ?_, ?_⟩
    · simp [List.mapM_cons, resOne, r1]
    · rw [getD_list]
      exact r2.cons (ht.getD t (vr_undef L))
  | .cell a ty :: rs, l, h => by
    simp only [exResults] at h
    split at h
    · rename_i v l0 h1 h2
      simp only [Option.some.injEq] at h
      subst h
      obtain ⟨l', r1, r2⟩ := resList_run S ht h2
      obtain ⟨v', q1, q2⟩ := loadVar_run (P := P) S h1 (ht.getD a (vr_undef L))
      rw [← getD_list] at q1
      refine ⟨v' :: l', ?_, r2.cons q2⟩
      have q3 : (resOne tmps (.cell a ty)).run P w = .ok v' w := q1
      simp only [List.mapM_cons, Sem.run_bind, q3, Result.andThen_ok, r1, Sem.run_pure]
    · cases h

theorem results_run {fn : Func} {tmps : Array Value} {ts l : List Value} (S : Sim N W0 L H w) (ht : LR L ts tmps.toList) (h : exResults P fn.results.toList ts H = some l) :
    ∃ v', (results fn tmps).run P w = .ok v' w ∧ VR L (tupleOf l) v' := by
  obtain ⟨l', r1, r2⟩ := resList_run (P := P) S ht h
  have e0 : results fn tmps = (do
      let vs ← fn.results.mapM (resOne tmps)
      pure (if h : vs.size = 1 then vs[0] else .tuple vs)) := by
    unfold results resOne
    congr 1
  rw [e0, Array.mapM_eq_mapM_toList]
  simp only [Sem.run_bind, Sem.run_map, r1, Result.andThen_ok, Sem.run_pure]
  refine ⟨_, rfl, ?_⟩
  cases l' with
  | nil =>
    cases l with
    | nil => exact .tuple [] [] rfl (fun i h => by simp at h)
    | cons x y => simp [LR] at r2
  | cons x' y' =>
    cases l with
    | nil => simp [LR] at r2
    | cons x y =>
      cases y' with
      | nil =>
        cases y with
        | nil => exact r2.head
        | cons _ _ => simp [LR] at r2
      | cons z' q' =>
        cases y with
        | nil => simp [LR] at r2
        | cons z q => exact .tuple _ _ r2.1 r2.2

theorem slots_run {fn : Func} {args args' : List Value} (h : LR L args args') :
    LR L (slotsAt fn args) ((⟨args'⟩ : Array Value) ++ Array.replicate (fn.ntmps - (⟨args'⟩ : Array Value).size) undef).toList := by
  have e : ((⟨args'⟩ : Array Value) ++ Array.replicate (fn.ntmps - (⟨args'⟩ : Array Value).size) undef).toList = args' ++ List.replicate (fn.ntmps - args.length) undef := by
    rw [h.1]
    simp
  rw [e]
  unfold slotsAt
  refine h.append ⟨by simp, fun i h1 h2 => ?_⟩
  simp only [List.getElem_replicate]
  exact vr_undef L

/-! ### Pieces of code -/
def CodeOK (P : Program) (N : Th) (W0 : World) (f : Code → St → Heap → ResA) : Prop :=
  ∀ c s H e s' H', f c s H = some (e, s', H') → ∀ L a w, Stands N W0 L s H a w → c.wp P (EndR N W0 L e s' H') a w ∧
    ∀ d, c = .loop d → ∀ (b : Frame) (k : List Item) (cs : List Frame), ∃ x a' w', EndR N W0 L e s' H' x a' w' ∧ Arrives P (lone (b.at a (.inLoop d :: k)) cs w) b k cs x a' w'

def ScopeOK (P : Program) (N : Th) (W0 : World) (f : Code → Code → St → Heap → ResA) : Prop :=
  ∀ body c s H e s' H', f body c s H = some (e, s', H') → ∀ L a w, Stands N W0 L s H a w →
    ∀ (b : Frame) (k : List Item) (cs : List Frame), ∃ x a' w', EndR N W0 L e s' H' x a' w' ∧ Arrives P (lone (b.at a (.code c :: .inScope body :: k)) cs w) b k cs x a' w'

structure RunsOK (P : Program) (N : Th) (W0 : World) (r : Runs) : Prop where
  call : CallOK P N W0 r.call
  code : CodeOK P N W0 r.code
  scope : ScopeOK P N W0 r.scope

theorem endM_normal {x : Exit} (h : EndM L .normal x) : x = .normal := by cases x <;> first | rfl | exact h.elim
theorem endM_exit {i : Nat} {x : Exit} (h : EndM L (.exit i) x) : x = .exit i := by
  cases x <;> first | exact h.elim | (simp only [EndM] at h; subst h; rfl)
theorem endM_goto {i : Nat} {x : Exit} (h : EndM L (.goto i) x) : x = .goto i := by
  cases x <;> first | exact h.elim | (simp only [EndM] at h; subst h; rfl)
theorem endM_ret {x : Exit} (h : EndM L .ret x) : x = .ret := by cases x <;> first | rfl | exact h.elim
theorem endM_pan {v : Value} {x : Exit} (h : EndM L (.pan v) x) : ∃ v', x = .panic [{ v := v', recovered := false }] ∧ VR L v v' := by
  cases x <;> first | exact h.elim | (obtain ⟨v', rfl, h⟩ := h; exact ⟨v', rfl, h⟩)

/-- The ends at which a piece of code hands on to what lies about it, but for the end 'normal'. -/
theorem end_then {e : ExA} {s : St} {H : Heap} {x : Exit} {a : Act} {w : World} {K : Act → World → Prop} {Q : Exit → Act → World → Prop}
    (h : EndR N W0 L e s H x a w) (hn : e ≠ .normal) (hq : EndR N W0 L e s H x a w → Q x a w) : Exit.then K Q x a w := by
  obtain ⟨L', h1, h2, h3⟩ := h
  cases x with
  | normal => cases e <;> first | exact absurd rfl hn | exact h3.elim
  | _ => exact hq ⟨L', h1, h2, h3⟩

theorem seq_run {c d : Code} {e : ExA} {s' : St} {H' : Heap} {e2 : ExA} {s2 : St} {H2 : Heap} {a : Act} (h1 : c.wp P (EndR N W0 L e s' H') a w)
    (h2 : e = .normal → ∀ L' a' w', Stands N W0 L' s' H' a' w' → d.wp P (EndR N W0 L' e2 s2 H2) a' w') (h3 : e ≠ .normal → e2 = e ∧ s2 = s' ∧ H2 = H') :
    (Code.seq c d).wp P (EndR N W0 L e2 s2 H2) a w := by
  refine wp_seq (wp_mono h1 fun x a' w' hx => ?_)
  by_cases he : e = .normal
  · subst he
    obtain ⟨L', l1, l2, l3⟩ := hx
    obtain rfl := endM_normal l3
    exact wp_mono (h2 rfl L' a' w' l2) fun x a w h => h.le l1
  · obtain ⟨rfl, rfl, rfl⟩ := h3 he
    exact end_then hx he id

end Go.Vm

namespace Go.Vm
open Go.RowKit
set_option linter.unusedSimpArgs false
set_option linter.unusedVariables false
variable {P : Program} {N : Th} {W0 : World} {L : Lay} {H : Heap} {w : World}

def DrawOK (P : Program) (N : Th) (W0 : World) (dr : List Oper → St → Heap → ResA) : Prop :=
  ∀ (id : Nat) (ops : Array Oper) s H e s' H', dr ops.toList s H = some (e, s', H') → ∀ L a w, Stands N W0 L s H a w → (Code.region id ops true).wp P (EndR N W0 L e s' H') a w

theorem inLoop_run {c : Code} {e : ExA} {s' : St} {H' : Heap} {e2 : ExA} {s2 : St} {H2 : Heap} {a : Act} (h1 : c.wp P (EndR N W0 L e s' H') a w)
    (h2 : e = .normal → ∀ L' a' w', Stands N W0 L' s' H' a' w' → ∀ (b : Frame) (k : List Item) (cs : List Frame), ∃ x a2 w2, EndR N W0 L' e2 s2 H2 x a2 w2 ∧ Arrives P (lone (b.at a' (.inLoop c :: k)) cs w') b k cs x a2 w2)
    (h3 : e ≠ .normal → e2 = e ∧ s2 = s' ∧ H2 = H') (b : Frame) (k : List Item) (cs : List Frame) :
    ∃ x a2 w2, EndR N W0 L e2 s2 H2 x a2 w2 ∧ Arrives P (lone (b.at a (.code c :: .inLoop c :: k)) cs w) b k cs x a2 w2 := by
  obtain ⟨x, a1, w1, hx, harr⟩ := h1 b (.inLoop c :: k) cs
  by_cases he : e = .normal
  · subst he
    obtain ⟨L', l1, l2, l3⟩ := hx
    obtain rfl := endM_normal l3
    obtain ⟨x2, a2, w2, q1, q2⟩ := h2 rfl L' a1 w1 l2 b k cs
    exact ⟨x2, a2, w2, q1.le l1, .of_steps harr q2⟩
  · obtain ⟨rfl, rfl, rfl⟩ := h3 he
    obtain ⟨L', l1, l2, l3⟩ := hx
    cases x with
    | normal => cases e2 <;> first | exact absurd rfl he | exact l3.elim
    | exit id => exact ⟨_, a1, w1, ⟨L', l1, l2, l3⟩, .pass (x := .inLoop c) rfl (fun _ _ => .inl (by simp)) harr⟩
    | goto l => exact ⟨_, a1, w1, ⟨L', l1, l2, l3⟩, .pass (x := .inLoop c) rfl (fun _ _ => .inl (by simp)) harr⟩
    | ret => exact ⟨_, a1, w1, ⟨L', l1, l2, l3⟩, .pass (x := .inLoop c) rfl (fun _ _ => .inl (by simp)) harr⟩
    | panic ch => exact ⟨_, a1, w1, ⟨L', l1, l2, l3⟩, .pass (x := .inLoop c) rfl (fun _ _ => .inl (by simp)) harr⟩
    | outgrown => exact ⟨_, a1, w1, ⟨L', l1, l2, l3⟩, .pass (x := .inLoop c) rfl (fun _ _ => .inl (by simp)) harr⟩

theorem stands_end {s : St} {e : ExA} {x : Exit} {a : Act} (hs : Stands N W0 L s H a w) (h : EndM L e x) : EndR N W0 L e s H x a w := ⟨L, Lay.le_refl L, hs, h⟩

theorem evA_bool {t : List Value} {x : Operand} {b : Bool} (h : evA t x = some (.bool b)) {a : Act} (ht : LR L t a.tmps.toList) : a.eval x = .bool b :=
  (vr_bool (evA_run h ht) b).1 rfl

/-- The end of what is run next, or the end that was come to. -/
theorem next_some {f : St → Heap → ResA} {r : ResA} {e2 : ExA} {s2 : St} {H2 : Heap} (h : (match r with | some (.normal, s', H') => f s' H' | x => x) = some (e2, s2, H2)) :
    ∃ e s' H', r = some (e, s', H') ∧ (e = .normal → f s' H' = some (e2, s2, H2)) ∧ (e ≠ .normal → e2 = e ∧ s2 = s' ∧ H2 = H') := by
  cases r with
  | none => simp at h
  | some p =>
    obtain ⟨e, s', H'⟩ := p
    refine ⟨e, s', H', rfl, ?_, ?_⟩
    · intro he; subst he; exact h
    · intro he
      cases e with
      | normal => exact absurd rfl he
      | _ => simp only [Option.some.injEq, Prod.mk.injEq] at h; obtain ⟨rfl, rfl, rfl⟩ := h; exact ⟨rfl, rfl, rfl⟩

theorem code_run {r : Runs} (hr : RunsOK P N W0 r) {dr : List Oper → St → Heap → ResA} (hd : DrawOK P N W0 dr) : CodeOK P N W0 (exCode P r dr) := by
  intro c s H e s' H' h L a w hs
  unfold exCode at h
  split at h
  · -- skip
    simp only [Option.some.injEq, Prod.mk.injEq] at h
    obtain ⟨rfl, rfl, rfl⟩ := h
    exact ⟨wp_skip (stands_end hs trivial), fun d hc => by cases hc⟩
  · -- label
    simp only [Option.some.injEq, Prod.mk.injEq] at h
    obtain ⟨rfl, rfl, rfl⟩ := h
    exact ⟨wp_label (stands_end hs trivial), fun d hc => by cases hc⟩
  · -- region
    rename_i id ops draw
    refine ⟨?_, fun d hc => by cases hc⟩
    cases draw with
    | false => exact text_run hr.call h hs
    | true => exact hd id ops s H e s' H' h L a w hs
  · -- seq
    rename_i x y
    refine ⟨?_, fun d hc => by cases hc⟩
    obtain ⟨e1, s1, H1, q1, q2, q3⟩ := next_some h
    exact seq_run (hr.code x s H e1 s1 H1 q1 L a w hs).1 (fun he L' a' w' hs' => (hr.code y s1 H1 e s' H' (q2 he) L' a' w' hs').1) q3
  · -- cond
    rename_i c x y
    refine ⟨?_, fun d hc => by cases hc⟩
    split at h
    · rename_i hc
      exact wp_cond_true (evA_bool hc hs.tmps) (hr.code x s H e s' H' h L a w hs).1
    · rename_i hc
      exact wp_cond_false (evA_bool hc hs.tmps) (hr.code y s H e s' H' h L a w hs).1
    · cases h
  · -- block
    rename_i id c
    refine ⟨wp_block ?_, fun d hc => by cases hc⟩
    cases hq : r.code c s H with
    | none => rw [hq] at h; simp at h
    | some p =>
      obtain ⟨e1, s1, H1⟩ := p
      rw [hq] at h
      have hw := (hr.code c s H e1 s1 H1 hq L a w hs).1
      refine wp_mono hw fun x a' w' hx => ?_
      obtain ⟨L', l1, l2, l3⟩ := hx
      cases e1 with
      | exit id' =>
        obtain rfl := endM_exit l3
        simp only [Exit.inBlock]
        cases hb : Nat.beq id' id with
        | true =>
          have := Nat.eq_of_beq_eq_true hb
          subst this
          simp only [hb, Option.some.injEq, Prod.mk.injEq] at h
          obtain ⟨rfl, rfl, rfl⟩ := h
          rw [if_pos rfl]
          exact ⟨L', l1, l2, trivial⟩
        | false =>
          have := Nat.ne_of_beq_eq_false hb
          simp only [hb, Option.some.injEq, Prod.mk.injEq] at h
          obtain ⟨rfl, rfl, rfl⟩ := h
          rw [if_neg this]
          exact ⟨L', l1, l2, rfl⟩
      | normal =>
        obtain rfl := endM_normal l3
        simp only [Option.some.injEq, Prod.mk.injEq] at h
        obtain ⟨rfl, rfl, rfl⟩ := h
        exact ⟨L', l1, l2, l3⟩
      | goto i =>
        obtain rfl := endM_goto l3
        simp only [Option.some.injEq, Prod.mk.injEq] at h
        obtain ⟨rfl, rfl, rfl⟩ := h
        exact ⟨L', l1, l2, l3⟩
      | ret =>
        obtain rfl := endM_ret l3
        simp only [Option.some.injEq, Prod.mk.injEq] at h
        obtain ⟨rfl, rfl, rfl⟩ := h
        exact ⟨L', l1, l2, l3⟩
      | pan v =>
        obtain ⟨v', rfl, hv⟩ := endM_pan l3
        simp only [Option.some.injEq, Prod.mk.injEq] at h
        obtain ⟨rfl, rfl, rfl⟩ := h
        exact ⟨L', l1, l2, l3⟩
  · -- loop
    rename_i c
    obtain ⟨e1, s1, H1, q1, q2, q3⟩ := next_some h
    have key := inLoop_run (hr.code c s H e1 s1 H1 q1 L a w hs).1 (fun he L' a' w' hs' => (hr.code (.loop c) s1 H1 e s' H' (q2 he) L' a' w' hs').2 c rfl) q3
    refine ⟨fun b k cs => ?_, fun d hc b k cs => ?_⟩
    · obtain ⟨x, a2, w2, k1, k2⟩ := key b k cs
      exact ⟨x, a2, w2, k1, .of_steps (.one step_loop) k2⟩
    · cases hc
      obtain ⟨x, a2, w2, k1, k2⟩ := key b k cs
      exact ⟨x, a2, w2, k1, .of_steps (.one step_inLoop) k2⟩
  · -- exit
    simp only [Option.some.injEq, Prod.mk.injEq] at h
    obtain ⟨rfl, rfl, rfl⟩ := h
    exact ⟨wp_exit (stands_end hs rfl), fun d hc => by cases hc⟩
  · -- goto
    simp only [Option.some.injEq, Prod.mk.injEq] at h
    obtain ⟨rfl, rfl, rfl⟩ := h
    exact ⟨wp_goto (stands_end hs rfl), fun d hc => by cases hc⟩
  · -- ret
    simp only [Option.some.injEq, Prod.mk.injEq] at h
    obtain ⟨rfl, rfl, rfl⟩ := h
    exact ⟨wp_ret (stands_end hs trivial), fun d hc => by cases hc⟩
  · -- scope
    rename_i c
    refine ⟨fun b k cs => ?_, fun d hc => by cases hc⟩
    obtain ⟨x, a2, w2, k1, k2⟩ := hr.scope c c s H e s' H' h L a w hs b k cs
    exact ⟨x, a2, w2, k1, .of_steps (.one step_scope) k2⟩
  · cases h

theorem scope_run {r : Runs} (hr : RunsOK P N W0 r) : ScopeOK P N W0 (exScope r) := by
  intro body c s H e s' H' h L a w hs b k cs
  unfold exScope at h
  cases hq : r.code c s H with
  | none => rw [hq] at h; simp at h
  | some p =>
    obtain ⟨e1, s1, H1⟩ := p
    rw [hq] at h
    obtain ⟨x, a1, w1, hx, harr⟩ := (hr.code c s H e1 s1 H1 hq L a w hs).1 b (.inScope body :: k) cs
    obtain ⟨L', l1, l2, l3⟩ := hx
    cases e1 with
    | goto l =>
      obtain rfl := endM_goto l3
      simp only at h
      cases hf : findLabel body l with
      | some rest =>
        simp only [hf] at h
        obtain ⟨x2, a2, w2, k1, k2⟩ := hr.scope body rest s1 H1 e s' H' h L' a1 w1 l2 b k cs
        exact ⟨x2, a2, w2, k1.le l1, .of_steps (harr _ (by simp [gotoIn, hf])) k2⟩
      | none =>
        simp only [hf, Option.some.injEq, Prod.mk.injEq] at h
        obtain ⟨rfl, rfl, rfl⟩ := h
        exact ⟨_, a1, w1, ⟨L', l1, l2, l3⟩, fun k' hk => harr k' (by simp [gotoIn, hf, hk])⟩
    | exit id =>
      obtain rfl := endM_exit l3
      simp only [Option.some.injEq, Prod.mk.injEq] at h
      obtain ⟨rfl, rfl, rfl⟩ := h
      exact ⟨_, a1, w1, ⟨L', l1, l2, l3⟩, fun k' hk => harr k' (by simp [exitTo, hk])⟩
    | normal =>
      obtain rfl := endM_normal l3
      simp only [Option.some.injEq, Prod.mk.injEq] at h
      obtain ⟨rfl, rfl, rfl⟩ := h
      exact ⟨_, a1, w1, ⟨L', l1, l2, l3⟩, Steps.trans harr (.one step_inScope)⟩
    | ret =>
      obtain rfl := endM_ret l3
      simp only [Option.some.injEq, Prod.mk.injEq] at h
      obtain ⟨rfl, rfl, rfl⟩ := h
      exact ⟨_, a1, w1, ⟨L', l1, l2, l3⟩, harr⟩
    | pan v =>
      obtain ⟨v', rfl, hv⟩ := endM_pan l3
      simp only [Option.some.injEq, Prod.mk.injEq] at h
      obtain ⟨rfl, rfl, rfl⟩ := h
      exact ⟨_, a1, w1, ⟨L', l1, l2, l3⟩, harr⟩

end Go.Vm

namespace Go.Vm
open Go.RowKit
set_option linter.unusedSimpArgs false
set_option linter.unusedVariables false
variable {P : Program} {N : Th} {W0 : World} {L : Lay} {H : Heap} {w : World}

theorem dr_nil {l : List Deferred} (h : DR L [] l) : l = [] := by cases h; rfl

/-- A deferred call that asks for a panic, where there is none. -/
theorem rec_run {f : FuncId} {fn : Func} {c : Code} (hf : P.funcs[f]? = some fn) (hb : fn.body = some c) (hr : isRec P fn c = true) (args : Array Value) (w : World) :
    (callFunc f args).run P w = .ok (.enter f args) w ∧ CallsD P f args .returning w fun e u' w' => u' = .returning ∧ w' = w ∧ ∃ v, e = .returned v := by
  unfold isRec at hr
  split at hr
  · split at hr
    · rename_i id ops k x ops' d as ty1 pos1 af1 k' ty d' ty2 ty3 pos2 af2
      simp only [Bool.and_eq_true, Bool.not_eq_true'] at hr
      obtain ⟨h1, h2, h3, h4, h5, h6, h7⟩ := hr
      have h1 := Nat.eq_of_beq_eq_true h1
      have h2 := Nat.eq_of_beq_eq_true h2
      subst h1 h2
      have h3 : d < fn.ntmps := by simpa [Nat.blt_eq] using h3
      have h4 : k < fn.ntmps := by simpa [Nat.blt_eq] using h4
      have h5 : fn.results.toList = [] := by simpa using h5
      have hpure : ∀ w : World, (do eqGuard .neq ty (.tmp d) (.const .nilIface) .nilIface .nilIface; binOp .neq ty .nilIface .nilIface : Sem Value).run P w = .ok (.bool false) w := by
        unfold isNoPanic at h7
        split at h7
        · rename_i hp
          exact pureRun_run P _ _ hp
        · cases h7
      refine ⟨?_, callsD_of_wpS hf hb fun c₀ cs hu => ?_⟩
      · unfold callFunc
        simp only [Sem.run_bind, run_program, Result.andThen_ok, hf]
        rw [if_neg (by rw [h6]; simp), if_neg (by rw [hb]; simp)]
        rfl
      · refine wpS_seq (wpS_region ?_)
        have hrec : recoverD (c₀ :: cs) = none := by simp only [recoverD, hu]
        have hsz : (args ++ Array.replicate (fn.ntmps - args.size) undef).size ≥ fn.ntmps := by simp; omega
        generalize args ++ Array.replicate (fn.ntmps - args.size) undef = tm at hsz
        show wpOpsS P _ _ [0, 1] _ _ _
        have e1 : ∀ ρ : Operand → Value, (execOp ρ ⟨some d, .call ⟨.builtin .recover, ⟨[]⟩, as⟩, ty1, pos1, af1, none⟩).run P w = .ok .recover w := fun ρ => rfl
        have e2 : ∀ ρ : Operand → Value, ρ (.tmp d) = .nilIface → ρ (.const .nilIface) = .nilIface → (execOp ρ ⟨some k, .binOp .neq ty (.tmp d) (.const .nilIface) ty2, ty3, pos2, af2, none⟩).run P w = .ok (.value (.bool false)) w := fun ρ h1 h2 => by
          have := hpure w
          simp only [execOp, h1, h2, Sem.run_bind, Sem.run_map] at this ⊢
          rw [this]; rfl
        unfold wpOpsS
        simp only [List.getElem?_toArray, List.getElem?_cons_zero, Region.wanted, if_true, e1, hrec]
        unfold wpOpsS
        simp only [List.getElem?_toArray, List.getElem?_cons_succ, List.getElem?_cons_zero, Region.wanted, if_true]
        have hv1 : (({ tmps := tm, defers := [] } : Act).put (some d) .nilIface).eval (.tmp d) = .nilIface := by
          simp only [Act.put, Act.eval]
          rw [Array.getD_eq_getD_getElem?]
          simp [show d < tm.size from Nat.lt_of_lt_of_le h3 hsz]
        rw [e2 _ hv1 rfl]
        simp only [Oper.upon_value, wpOpsS]
        show (Code.cond (.tmp k) x .skip).wpS P _ _ _ _
        refine wpS_cond (t := false) ?_ ?_
        · simp only [Act.put, Act.eval]
          rw [Array.getD_eq_getD_getElem?]
          simp [show k < tm.size from Nat.lt_of_lt_of_le h4 hsz]
        · rw [if_neg (by simp)]
          refine wpS_of_wp (wp_skip ?_)
          refine ⟨rfl, .returning, by rw [← hu], ?_⟩
          have : fn.results = #[] := Array.ext' h5
          refine ⟨.tuple #[], ?_, rfl, rfl, _, rfl⟩
          unfold results
          rw [this, Array.mapM_eq_mapM_toList]
          rfl
    · cases hr
  · cases hr

/-- A deferred call, and what is behind it. -/
theorem late_run {E : Hooks} {r : Runs} (hr : RunsOK P N W0 r) {f : FuncId} {args args' : List Value} {H' : Heap} (h : exLate P E r f args H = some H') (S : Sim N W0 L H w) (ha : LR L args args') (u : FrameMode) (hq : recFn P f = false ∨ u = .returning) :
    (callFunc f ⟨args'⟩).run P w = .ok (.enter f ⟨args'⟩) w ∧
    CallsD P f ⟨args'⟩ u w fun e u' w' => u' = u ∧ ∃ v L', e = .returned v ∧ L.le L' ∧ Sim N W0 L' H' w' := by
  unfold exLate at h
  split at h
  · cases h
  · split at h
    · rename_i fn hf
      split at h
      · rename_i c hb
        split at h
        · rename_i hrec
          simp only [Option.some.injEq] at h
          subst h
          have hu : u = .returning := hq.resolve_left (by unfold recFn; simp only [hf, hb, hrec]; simp)
          subst hu
          obtain ⟨r1, r2⟩ := rec_run hf hb hrec ⟨args'⟩ w
          exact ⟨r1, r2.mono fun e u' w' hx => by obtain ⟨rfl, rfl, v, rfl⟩ := hx; exact ⟨rfl, v, L, rfl, Lay.le_refl L, S⟩⟩
        split at h
        · cases h
        · rename_i hn
          have hen : (callFunc f ⟨args'⟩).run P w = .ok (.enter f ⟨args'⟩) w := by
            unfold callFunc
            simp only [Sem.run_bind, run_program, Result.andThen_ok, hf]
            rw [if_neg (by rw [hn]; simp), if_neg (by rw [hb]; simp)]
            rfl
          refine ⟨hen, callsD_of_wp hf hb ?_⟩
          split at h
          · rename_i t H1 hq
            simp only [Option.map_eq_some_iff] at h
            obtain ⟨l, h1, rfl⟩ := h
            have hw := (hr.code c _ H _ _ _ hq L { tmps := (⟨args'⟩ : Array Value) ++ Array.replicate (fn.ntmps - (⟨args'⟩ : Array Value).size) undef, defers := [] } w ⟨S, slots_run ha, .nil⟩).1
            refine wp_mono hw fun x a' w' hx => ?_
            obtain ⟨L', l1, l2, l3⟩ := hx
            obtain rfl := endM_normal l3
            obtain ⟨v', r1, r2⟩ := results_run (P := P) l2.sim l2.tmps h1
            exact ⟨dr_nil l2.defers, v', r1, v', L', rfl, l1, l2.sim⟩
          · rename_i t H1 hq
            simp only [Option.map_eq_some_iff] at h
            obtain ⟨l, h1, rfl⟩ := h
            have hw := (hr.code c _ H _ _ _ hq L { tmps := (⟨args'⟩ : Array Value) ++ Array.replicate (fn.ntmps - (⟨args'⟩ : Array Value).size) undef, defers := [] } w ⟨S, slots_run ha, .nil⟩).1
            refine wp_mono hw fun x a' w' hx => ?_
            obtain ⟨L', l1, l2, l3⟩ := hx
            obtain rfl := endM_ret l3
            obtain ⟨v', r1, r2⟩ := results_run (P := P) l2.sim l2.tmps h1
            exact ⟨dr_nil l2.defers, v', r1, v', L', rfl, l1, l2.sim⟩
          · cases h
      · cases h
    · cases h

theorem leave_run {E : Hooks} {r : Runs} (hr : RunsOK P N W0 r) {fn : Func} {tmps : Array Value} {R : Ending → World → Prop} {u : FrameMode} (hu : u ≠ .run) (hset : settle u = u) :
    ∀ {ds : List (FuncId × List Value)} {H H' : Heap}, exLeave P E r ds H = some H' → (recs P ds = false ∨ u = .returning) → ∀ {L : Lay} {ds' : List Deferred} {w : World}, Sim N W0 L H w → DR L ds ds' →
    (∀ L' w', L.le L' → Sim N W0 L' H' w' → Leaves P fn tmps R [] u w') → Leaves P fn tmps R ds' u w := by
  intro ds
  induction ds with
  | nil =>
    intro H H' h hq L ds' w S hd k
    simp only [exLeave, Option.some.injEq] at h
    subst h
    rw [dr_nil hd]
    exact k L w (Lay.le_refl L) S
  | cons d ds ih =>
    intro H H' h hq L ds' w S hd k
    have hq1 : recFn P d.1 = false ∨ u = .returning := hq.imp (fun h => by unfold recs at h; simp only [List.any_cons, Bool.or_eq_false_iff] at h; exact h.1) id
    have hq2 : recs P ds = false ∨ u = .returning := hq.imp (fun h => by unfold recs at h ⊢; simp only [List.any_cons, Bool.or_eq_false_iff] at h; exact h.2) id
    simp only [exLeave] at h
    split at h
    · rename_i H1 h1
      cases hd with
      | cons g args first mid cap ds ds2 hl hs =>
        obtain ⟨hen, hcall⟩ := late_run hr h1 S hl u hq1
        refine leaves_cons (f := g) (args := ⟨first ++ mid ++ cap⟩) hu ?_ ?_
        · have e : (⟨first ++ mid⟩ : Array Value) ++ (⟨cap⟩ : Array Value) = ⟨first ++ mid ++ cap⟩ := Array.ext' (by simp)
          simp only [invoke, e]
          exact hen
        · refine hcall.mono fun e u' w' hx => ?_
          obtain ⟨rfl, v, L', rfl, l1, l2⟩ := hx
          simp only [hset]
          exact ih h hq2 l2 (hs.mono l1) fun L2 w2 q1 q2 => k L2 w2 (Lay.le_trans l1 q1) q2
    · cases h

theorem body_run {E : Hooks} {r : Runs} (hr : RunsOK P N W0 r) {f : FuncId} {fn : Func} {c : Code} (hf : P.funcs[f]? = some fn) (hb : fn.body = some c) {args args' : List Value} {out : Out} {H' : Heap}
    (h : exBody P E r fn c args H = some (out, H')) (S : Sim N W0 L H w) (ha : LR L args args') :
    Calls P f ⟨args'⟩ w fun e w' => ∃ L', L.le L' ∧ Sim N W0 L' H' w' ∧ OutRel L' out e := by
  refine calls_of_wp_defers hf hb ?_
  unfold exBody at h
  split at h
  · rename_i e s H1 hq
    have hw := (hr.code c _ H _ _ _ hq L { tmps := (⟨args'⟩ : Array Value) ++ Array.replicate (fn.ntmps - (⟨args'⟩ : Array Value).size) undef, defers := [] } w ⟨S, slots_run ha, .nil⟩).1
    refine wp_mono hw fun x a' w' hx => ?_
    obtain ⟨L', l1, l2, l3⟩ := hx
    split at h
    · rename_i H2 hlv
      cases e with
      | pan v =>
        obtain ⟨v', rfl, hv⟩ := endM_pan l3
        simp only [] at h
        split at h
        · cases h
        rename_i hrc
        simp only [Option.some.injEq, Prod.mk.injEq] at h
        obtain ⟨rfl, rfl⟩ := h
        refine leave_run hr (by simp) (by rfl) hlv (.inl hrc) l2.sim l2.defers fun L2 w2 q1 q2 => ?_
        exact ⟨L2, Lay.le_trans l1 q1, q2, v', rfl, hv.mono q1⟩
      | normal =>
        obtain rfl := endM_normal l3
        simp only [Option.map_eq_some_iff, Prod.mk.injEq] at h
        obtain ⟨l, h1, rfl, rfl⟩ := h
        refine leave_run hr (by simp) (by rfl) hlv (.inr rfl) l2.sim l2.defers fun L2 w2 q1 q2 => ?_
        obtain ⟨v', r1, r2⟩ := results_run (P := P) q2 (l2.tmps.mono q1) h1
        exact ⟨v', r1, L2, Lay.le_trans l1 q1, q2, r2⟩
      | ret =>
        obtain rfl := endM_ret l3
        simp only [Option.map_eq_some_iff, Prod.mk.injEq] at h
        obtain ⟨l, h1, rfl, rfl⟩ := h
        refine leave_run hr (by simp) (by rfl) hlv (.inr rfl) l2.sim l2.defers fun L2 w2 q1 q2 => ?_
        obtain ⟨v', r1, r2⟩ := results_run (P := P) q2 (l2.tmps.mono q1) h1
        exact ⟨v', r1, L2, Lay.le_trans l1 q1, q2, r2⟩
      | _ => simp at h
    · cases h
  · cases h

theorem calls_run {E : Hooks} (hE : CallOK P N W0 E.run) {r : Runs} (hr : RunsOK P N W0 r) : CallOK P N W0 (exCall P E r) := by
  intro f args H out H' h L w args' S ha
  unfold exCall at h
  split at h
  · exact hE f args H out H' h L w args' S ha
  · split at h
    · rename_i fn hf
      split at h
      · rename_i c hb
        split at h
        · cases h
        · rename_i hn
          exact .inl ⟨fn, hf, hn, by rw [hb]; rfl, body_run hr hf hb h S ha⟩
      · cases h
    · cases h

theorem runs_ok {E : Hooks} (hE : ∀ N W0, CallOK P N W0 E.run) (hD : ∀ call, (∀ N W0, CallOK P N W0 call) → ∀ N W0, DrawOK P N W0 (exDraw P call)) : ∀ n (N : Th) (W0 : World), RunsOK P N W0 (runs P E n)
  | 0, N, W0 => ⟨fun _ _ _ _ _ h => by simp [runs] at h, fun _ _ _ _ _ _ h => by simp [runs] at h, fun _ _ _ _ _ _ _ h => by simp [runs] at h⟩
  | n + 1, N, W0 =>
    have ih := runs_ok hE hD n
    ⟨calls_run (hE N W0) (ih N W0), code_run (ih N W0) (hD _ (fun N W0 => (ih N W0).call) N W0), scope_run (ih N W0)⟩

end Go.Vm
