/- What is proved: the program's reader of expressions: which sign of a row stands at a place; a level deeper. -/
import Derived.Test.YtblmgcfigcpoaaaExprW1
namespace Go.Vm
variable {P : Program} {E : Hooks}
/-! ### A loop by a goto that leads back -/
def backQ (l : Nat) (I : Nat → List Value → Heap → Prop) (m : Nat) (Q : QA) : QA := fun e s H => match e with
  | .goto i => i = l ∧ s.ds = [] ∧ ∃ m', m' < m ∧ I m' s.t H
  | e => Q e s H
section
variable (l : Nat) (I : Nat → List Value → Heap → Prop) (m : Nat) (Q : QA)
@[simp] theorem backQ_goto (i : Nat) (s : St) (H : Heap) : backQ l I m Q (.goto i) s H = (i = l ∧ s.ds = [] ∧ ∃ m', m' < m ∧ I m' s.t H) := id rfl
@[simp] theorem backQ_normal (s : St) (H : Heap) : backQ l I m Q .normal s H = Q .normal s H := id rfl
@[simp] theorem backQ_exit (i : Nat) (s : St) (H : Heap) : backQ l I m Q (.exit i) s H = Q (.exit i) s H := id rfl
@[simp] theorem backQ_ret (s : St) (H : Heap) : backQ l I m Q .ret s H = Q .ret s H := id rfl
@[simp] theorem backQ_pan (v : Value) (s : St) (H : Heap) : backQ l I m Q (.pan v) s H = Q (.pan v) s H := id rfl
end
theorem scope_back {b rest : Code} {l : Nat} (hf : findLabel b l = some rest) {Q : QA} {I : Nat → List Value → Heap → Prop}
    (step : ∀ m t H, I m t H → Ends ((run P E).code rest ⟨Fr t [], []⟩ H) (backQ l I m Q)) : ∀ m t H, I m t H → Ends ((run P E).scope b rest ⟨t, []⟩ H) Q := by
  intro m
  induction m using Nat.strongRecOn with
  | _ m ih =>
    intro t H hI
    obtain ⟨e, s, H', h1, h2⟩ := step m t H hI
    rw [Fr_nil] at h1
    rw [run_scope]
    unfold exScope
    rw [h1]
    cases e with
    | goto i =>
      rw [backQ_goto] at h2
      obtain ⟨rfl, h3, m', h4, h5⟩ := h2
      simp only [hf]
      obtain ⟨t', ds⟩ := s
      simp only at h3
      subst h3
      exact ih m' h4 t' H' h5
    | _ => exact ⟨_, _, _, rfl, h2⟩
/-- A scope of which one label is led back to. -/
theorem ends_scope {c rest : Code} {l : Nat} (hf : findLabel c l = some rest) {Q : QA} {I : Nat → List Value → Heap → Prop}
    (step : ∀ m t H, I m t H → Ends ((run P E).code rest ⟨Fr t [], []⟩ H) (backQ l I m Q)) (m0 : Nat) {s : St} {H : Heap} (first : Ends ((run P E).code c s H) (backQ l I m0 Q)) : Ends ((run P E).code (.scope c) s H) Q := by
  rw [run_code]
  show Ends ((run P E).scope c c s H) Q
  rw [run_scope]
  unfold exScope
  obtain ⟨e, s', H', h1, h2⟩ := first
  rw [h1]
  cases e with
  | goto i =>
    rw [backQ_goto] at h2
    obtain ⟨rfl, h3, m', h4, h5⟩ := h2
    simp only [hf]
    obtain ⟨t', ds⟩ := s'
    simp only at h3
    subst h3
    exact scope_back hf step m' t' H' h5
  | _ => exact ⟨_, _, _, rfl, h2⟩
theorem backQ_mono {l : Nat} {I : Nat → List Value → Heap → Prop} {m m' : Nat} (h : m ≤ m') {Q : QA} {r : ResA} (k : Ends r (backQ l I m Q)) : Ends r (backQ l I m' Q) := by
  obtain ⟨e, s, H, h1, h2⟩ := k
  refine ⟨e, s, H, h1, ?_⟩
  cases e with
  | goto i => rw [backQ_goto] at h2 ⊢; obtain ⟨a, b, j, c, d⟩ := h2; exact ⟨a, b, j, by omega, d⟩
  | _ => exact h2
end Go.Vm
namespace Go.Vm.Ex
open Go Go.Proofs Go.Vm.Parse
set_option maxRecDepth 100000
set_option maxHeartbeats 1000000
set_option linter.unusedSimpArgs false
set_option linter.unusedVariables false
attribute [local simp] repCells_succ writeAt rd_Fr toList_beq gpe gpn spe gse gsn ne_r0 ne_l0 le_s0 ne_r1 ne_l1 lt_s1 le_s1 ne_r2 ne_l2 lt_s2 le_s2 ne_r3 ne_l3 lt_s3 le_s3 ne_r4 ne_l4 lt_s4 le_s4 ne_r5 ne_l5 lt_s5 le_s5 ne_r6 ne_l6 lt_s6 le_s6 ne_r7 ne_l7 lt_s7 le_s7
/-- The instruction of the first of some signs that a token is; 0: it is none of them. -/
def opS (t : Tk) : List (ByteArray × Int) → Int
  | [] => 0
  | x :: l => if isT t x.1 = true then x.2 else opS t l
def rowL (k : Int) : List (ByteArray × Int) := (opsL.filter fun x => decide (x.2.1 = k)).map fun x => (x.1, x.2.2)
theorem opFrom_row {t : Tk} (hk : t.kind = 4 ∨ t.kind = 3) (k : Int) : ∀ l : List (ByteArray × Int × Int), opFrom k t.text l = opS t ((l.filter fun x => decide (x.2.1 = k)).map fun x => (x.1, x.2.2))
  | [] => rfl
  | (x, r, o) :: l => by
    have ih := opFrom_row hk k l
    simp only [opFrom, List.filter_cons]
    by_cases hr : r = k
    · have hT : isT t x = decide (x = t.text) := by
        unfold isT
        by_cases hx : x = t.text
        · simp [hx, hk.symm]
        · have hx' : ¬ t.text = x := fun h => hx h.symm
          simp [hx, hx']
      simp only [hr, decide_true, if_true, List.map_cons, opS, hT, decide_eq_true_eq, and_true]
      split
      · rfl
      · exact ih
    · simp only [hr, decide_false, Bool.false_eq_true, if_false, and_false]
      exact ih
theorem opS_no {t : Tk} (hk : ¬ (t.kind = 4 ∨ t.kind = 3)) : ∀ l, opS t l = 0
  | [] => rfl
  | x :: l => by
    simp only [opS]
    rw [if_neg (by unfold isT; simp only [decide_eq_true_eq]; exact fun h => hk h.1.symm)]
    exact opS_no hk l
theorem opP_row {L : List Tk} {s : PS} (hc : s.c = 0) (k : Int) : opP L s k = opS (tok L s.p) (rowL k) := by
  unfold opP rowL
  by_cases hk : (tok L s.p).kind = 4 ∨ (tok L s.p).kind = 3
  · rw [if_pos ⟨hc, hk⟩]; exact opFrom_row hk k _
  · rw [if_neg (fun h => hk h.2), opS_no hk]
section
variable {E : Hooks} (hE : Plain E)
include hE
theorem op_run2 (tk : Tk) (l : List (ByteArray × Int)) (hl : l.length ≤ 100) {H : Heap} {sid oid t1 t2 : Nat} (gs : H.get sid = .row true t1 1 (l.map fun x => .string x.1)) (go : H.get oid = .row true t2 1 (l.map fun x => .int .i64 x.2)) :
    ∃ H', (run Try.prog E).call 36 [tk.v, .slice (some ⟨sid, 0, none⟩) l.length l.length, .slice (some ⟨oid, 0, none⟩) l.length l.length] H = some (.val (.int .i64 (opS tk l)), H') ∧ Same (fun _ => False) H H' := by
  suffices key : Gives ((run Try.prog E).call 36 [tk.v, .slice (some ⟨sid, 0, none⟩) l.length l.length, .slice (some ⟨oid, 0, none⟩) l.length l.length] H) fun o H' => o = .val (.int .i64 (opS tk l)) ∧ Same (fun _ => False) H H' by
    obtain ⟨o, H', e, rfl, k⟩ := key
    exact ⟨H', e, k⟩
  rw [k_op hE, callB, bodyOf]
  have hi := is_run2 hE tk
  simp only [Tk.v, Tk.cells] at *
  simp [Try.f36]
  refine loop_wp (fun m t K => ∃ i : Nat, i + m = l.length ∧ rd t 11 = .int .i64 i ∧ Same (fun _ => False) (H.push (.row true 0 1 [.int .i64 tk.kind, .int .i64 tk.at_, .int .i64 tk.num, .string tk.text])) K ∧ opS tk l = opS tk (l.drop i)) l.length ?_ ?_
  · exact ⟨0, by omega, by simp, Same.refl _ _, rfl⟩
  rintro m t K hk ⟨i, hm, g11, kS, ho⟩
  have ht : t.length = 24 := hk.1.trans (by simp [len_Bs])
  have hh := hk.all [1, 2, 3, 9, 10] (by decide +kernel)
  simp at hh
  obtain ⟨u1, u2, u3, u9, u10⟩ := hh
  have hs1 := Heap.lt_of_get gs (by simp)
  have ho1 := Heap.lt_of_get go (by simp)
  have gb : K.get H.n = .row true 0 1 [.int .i64 tk.kind, .int .i64 tk.at_, .int .i64 tk.num, .string tk.text] := kS.at (Heap.get_push_self _ _) (by simp) (fun h => h)
  have gs' : K.get sid = .row true t1 1 (l.map fun x => .string x.1) := kS.at (by rw [Heap.get_push, if_neg (by omega)]; exact gs) (by simp) (fun h => h)
  have go' : K.get oid = .row true t2 1 (l.map fun x => .int .i64 x.2) := kS.at (by rw [Heap.get_push, if_neg (by omega)]; exact go) (by simp) (fun h => h)
  have hs2 := Heap.lt_of_get gs' (by simp)
  have ho2 := Heap.lt_of_get go' (by simp)
  have kk : Same (fun _ => False) H K := (Same.push _ _ _).trans kS
  rcases Nat.lt_or_ge i l.length with hlt | hge
  · have hd : l.drop i = l[i] :: l.drop (i + 1) := List.drop_eq_getElem_cons hlt
    rw [hd, opS] at ho
    have hw := wrap64 ((i : Int) + 1) (by omega) (by omega)
    have ei := hi l[i].1 K
    by_cases hx : isT tk l[i].1 = true
    · rw [if_pos hx] at ho
      simp only [hx] at ei
      simp [ht, u1, u2, u3, u9, u10, g11, hlt, gb, gs', go', hs2, ho2, ei, ho]
      exact kk.then_push _
    · rw [if_neg hx] at ho
      simp only [Bool.not_eq_true] at hx
      simp only [hx] at ei
      simp [ht, u1, u2, u3, u9, u10, g11, hlt, gb, gs', go', hs2, ho2, ei, hw]
      exact ⟨m - 1, by omega, i + 1, by omega, by simp [ht], kS.then_push _, ho⟩
  · have hd : l.drop i = [] := List.drop_eq_nil_of_le hge
    rw [hd] at ho
    simp [ht, u1, u2, u3, u9, u10, g11, show ¬ i < l.length by omega, ho, opS]
    exact kk
end
end Go.Vm.Ex
