/- What is defined and proved: a reader of tokens, in plain words; what its small steps hand back, and what they turn. What is proved: what a reader's small steps hand back, and what they turn. What is defined and proved: the reader of expressions in plain words; which sign of a row stands at a place. What is defined and proved: expressions in plain words, and in the heap; a reader of expressions, in plain words. -/
import Derived.Test.YtbjcfdopkaekjaaVmTab
import Derived.Test.YtbjcfdopkaekjaaGL
namespace Go.Vm
theorem toList_beq (a b : ByteArray) : (a.toList == b.toList) = decide (a = b) := by
  rw [ByteArray.toList_eq, ByteArray.toList_eq]
  obtain ⟨⟨x⟩⟩ := a
  obtain ⟨⟨y⟩⟩ := b
  show (x == y) = _
  by_cases h : x = y
  · subst h; simp
  · simp [h]
theorem Same.then_push {X : Nat → Prop} {A B : Heap} (k : Same X A B) (o : AObj) : Same X A (B.push o) := k.trans (Same.push _ _ _)
theorem Same.then_set {X : Nat → Prop} {A B : Heap} (k : Same X A B) {i : Nat} (hi : i < B.n) (hx : X i ∨ A.n ≤ i) (o : AObj) : Same X A (B.set i o) :=
  ⟨k.n, fun j hj hnx => by
    rw [Heap.get_set _ _ _ hi, if_neg (fun e => by rcases hx with h | h; exact hnx (e ▸ h); omega)]
    exact k.get j hj hnx⟩
theorem Same.then {X Y : Nat → Prop} {A B C : Heap} (k : Same X A B) (k2 : Same Y B C) (h : ∀ i, Y i → X i ∨ A.n ≤ i) : Same X A C :=
  ⟨Nat.le_trans k.n k2.n, fun j hj hnx => by
    rw [k2.get j (Nat.lt_of_lt_of_le hj k.n) (fun hy => by rcases h j hy with h1 | h1; exact hnx h1; omega)]
    exact k.get j hj hnx⟩
theorem Same.then0 {X : Nat → Prop} {A B C : Heap} (k : Same X A B) (k2 : Same (fun _ => False) B C) : Same X A C := k.then k2 fun _ h => h.elim
theorem Same.none {X : Nat → Prop} {H H' : Heap} (k : Same (fun _ => False) H H') : Same X H H' := k.mono fun _ h => h.elim
end Go.Vm
namespace Go.Vm.Parse
open Go Go.Proofs
set_option maxRecDepth 100000
set_option linter.unusedSimpArgs false
set_option linter.unusedVariables false
attribute [local simp] repCells_succ writeAt rd_Fr

/-- Hooks that sum up no function of the program but those of the laws' own. -/
structure Plain (E : Hooks) : Prop where
  no : ∀ f, Nat.beq f 7 = false → Nat.beq f 9 = false → E.has f = false

/-! ### Tokens -/
structure Tk where
  kind : Int
  at_ : Int
  num : Int
  text : ByteArray
def Tk.cells (t : Tk) : List Value := [.int .i64 t.kind, .int .i64 t.at_, .int .i64 t.num, .string t.text]
def Tk.v (t : Tk) : Value := .agg ⟨t.cells⟩
def flatT : List Tk → List Value
  | [] => []
  | t :: ts => t.cells ++ flatT ts
theorem flatT_length : ∀ l : List Tk, (flatT l).length = 4 * l.length
  | [] => rfl
  | t :: ts => by simp only [flatT, List.length_append, flatT_length ts, Tk.cells, List.length_cons, List.length_nil]; omega
theorem flatT_get : ∀ (l : List Tk) (p : Nat) (h : p < l.length), ((flatT l).drop (p * 4)).take 4 = l[p].cells
  | t :: ts, 0, h => by simp [flatT, Tk.cells]
  | t :: ts, p + 1, h => by
    have e : (p + 1) * 4 = t.cells.length + p * 4 := by simp [Tk.cells]; omega
    simp only [flatT, List.getElem_cons_succ]
    rw [e, List.drop_append, List.drop_eq_nil_of_le (by omega), List.nil_append, show t.cells.length + p * 4 - t.cells.length = p * 4 by omega]
    exact flatT_get ts p (by simpa using h)
def endTk : Tk := ⟨5, 0, 0, ByteArray.empty⟩
/-- Where a reader stands: its place, and the first fault. -/
structure PS where
  p : Nat
  c : Int
  a : Int
def tok (L : List Tk) (p : Nat) : Tk := L.getD p endTk
theorem tok_lt {L : List Tk} {p : Nat} (h : p < L.length) : tok L p = L[p] := by
  unfold tok; rw [List.getD_eq_getElem?_getD, List.getElem?_eq_getElem h]; rfl
theorem tok_ge {L : List Tk} {p : Nat} (h : L.length ≤ p) : tok L p = endTk := by
  unfold tok; rw [List.getD_eq_getElem?_getD, List.getElem?_eq_none h]; rfl
def isP (L : List Tk) (s : PS) (x : ByteArray) : Bool := decide (s.c = 0 ∧ ((tok L s.p).kind = 3 ∨ (tok L s.p).kind = 4) ∧ (tok L s.p).text = x)
def takeS (L : List Tk) (s : PS) (x : ByteArray) : PS := if isP L s x = true then { s with p := s.p + 1 } else s
def faultS (L : List Tk) (s : PS) (c : Int) : PS := if s.c = 0 then { s with c := c, a := (tok L s.p).at_ } else s
def mustS (L : List Tk) (s : PS) (x : ByteArray) : PS := if isP L s x = true then { s with p := s.p + 1 } else faultS L s 14

/-- The reader, in the heap. -/
structure RD (H : Heap) (r lid : Nat) (L : List Tk) (s : PS) : Prop where
  obj : H.get r = .row true 0 1 [.slice (some ⟨lid, 0, none⟩) L.length L.length, .int .i64 s.p, .int .i64 s.c, .int .i64 s.a]
  toks : ∃ tl, H.get lid = .row true tl 4 (flatT L)
  small : L.length ≤ 100000
  place : s.p ≤ L.length
theorem RD.ne {H : Heap} {r lid : Nat} {L : List Tk} {s : PS} (h : RD H r lid L s) : lid ≠ r := fun e => by
  obtain ⟨tl, h2⟩ := h.toks
  rw [e, h.obj] at h2
  cases h2
theorem RD.lt {H : Heap} {r lid : Nat} {L : List Tk} {s : PS} (h : RD H r lid L s) : r < H.n := Heap.lt_of_get h.obj (by simp)
theorem RD.same {H H' : Heap} {r lid : Nat} {L : List Tk} {s : PS} (h : RD H r lid L s) (k : Same (fun _ => False) H H') : RD H' r lid L s := by
  obtain ⟨tl, h2⟩ := h.toks
  exact ⟨k.at h.obj (by simp) (fun h => h), ⟨tl, k.at h2 (by simp) (fun h => h)⟩, h.small, h.place⟩
theorem RD.turn {H : Heap} {r lid : Nat} {L : List Tk} {s : PS} (h : RD H r lid L s) (s' : PS) (hp : s'.p ≤ L.length) :
    RD (H.set r (.row true 0 1 [.slice (some ⟨lid, 0, none⟩) L.length L.length, .int .i64 s'.p, .int .i64 s'.c, .int .i64 s'.a])) r lid L s' := by
  obtain ⟨tl, h2⟩ := h.toks
  exact ⟨Heap.get_set_self _ _ h.lt, ⟨tl, by rw [Heap.get_set _ _ _ h.lt, if_neg h.ne]; exact h2⟩, h.small, hp⟩

section
variable {E : Hooks} (hE : Plain E)
include hE
theorem c_now (args : List Value) (H : Heap) : (run Try.prog E).call 43 args H = callB Try.prog E Try.f43 args H := call_B Try.func43 rfl (by decide +kernel) (hE.no _ rfl rfl) args H
theorem c_bad (args : List Value) (H : Heap) : (run Try.prog E).call 45 args H = callB Try.prog E Try.f45 args H := call_B Try.func45 rfl (by decide +kernel) (hE.no _ rfl rfl) args H
theorem c_fault (args : List Value) (H : Heap) : (run Try.prog E).call 44 args H = callB Try.prog E Try.f44 args H := call_B Try.func44 rfl (by decide +kernel) (hE.no _ rfl rfl) args H
theorem c_is (args : List Value) (H : Heap) : (run Try.prog E).call 76 args H = callB Try.prog E Try.f76 args H := call_B Try.func76 rfl (by decide +kernel) (hE.no _ rfl rfl) args H
theorem c_take (args : List Value) (H : Heap) : (run Try.prog E).call 39 args H = callB Try.prog E Try.f39 args H := call_B Try.func39 rfl (by decide +kernel) (hE.no _ rfl rfl) args H
theorem c_must (args : List Value) (H : Heap) : (run Try.prog E).call 36 args H = callB Try.prog E Try.f36 args H := call_B Try.func36 rfl (by decide +kernel) (hE.no _ rfl rfl) args H
theorem c_name (args : List Value) (H : Heap) : (run Try.prog E).call 37 args H = callB Try.prog E Try.f37 args H := call_B Try.func37 rfl (by decide +kernel) (hE.no _ rfl rfl) args H
theorem c_num (args : List Value) (H : Heap) : (run Try.prog E).call 74 args H = callB Try.prog E Try.f74 args H := call_B Try.func74 rfl (by decide +kernel) (hE.no _ rfl rfl) args H
theorem c_opens (args : List Value) (H : Heap) : (run Try.prog E).call 108 args H = callB Try.prog E Try.f108 args H := call_B Try.func108 rfl (by decide +kernel) (hE.no _ rfl rfl) args H
theorem c_op (args : List Value) (H : Heap) : (run Try.prog E).call 109 args H = callB Try.prog E Try.f109 args H := call_B Try.func109 rfl (by decide +kernel) (hE.no _ rfl rfl) args H
theorem c_row (args : List Value) (H : Heap) : (run Try.prog E).call 91 args H = callB Try.prog E Try.f91 args H := call_B Try.func91 rfl (by decide +kernel) (hE.no _ rfl rfl) args H
theorem c_fact (args : List Value) (H : Heap) : (run Try.prog E).call 107 args H = callB Try.prog E Try.f107 args H := call_B Try.func107 rfl (by decide +kernel) (hE.no _ rfl rfl) args H
theorem c_index (args : List Value) (H : Heap) : (run Try.prog E).call 94 args H = callB Try.prog E Try.f94 args H := call_B Try.func94 rfl (by decide +kernel) (hE.no _ rfl rfl) args H
theorem c_items (args : List Value) (H : Heap) : (run Try.prog E).call 41 args H = callB Try.prog E Try.f41 args H := call_B Try.func41 rfl (by decide +kernel) (hE.no _ rfl rfl) args H
theorem c_args (args : List Value) (H : Heap) : (run Try.prog E).call 106 args H = callB Try.prog E Try.f106 args H := call_B Try.func106 rfl (by decide +kernel) (hE.no _ rfl rfl) args H
theorem c_block (args : List Value) (H : Heap) : (run Try.prog E).call 92 args H = callB Try.prog E Try.f92 args H := call_B Try.func92 rfl (by decide +kernel) (hE.no _ rfl rfl) args H
theorem c_stmts (args : List Value) (H : Heap) : (run Try.prog E).call 42 args H = callB Try.prog E Try.f42 args H := call_B Try.func42 rfl (by decide +kernel) (hE.no _ rfl rfl) args H
theorem c_stmt (args : List Value) (H : Heap) : (run Try.prog E).call 77 args H = callB Try.prog E Try.f77 args H := call_B Try.func77 rfl (by decide +kernel) (hE.no _ rfl rfl) args H
theorem c_branch (args : List Value) (H : Heap) : (run Try.prog E).call 93 args H = callB Try.prog E Try.f93 args H := call_B Try.func93 rfl (by decide +kernel) (hE.no _ rfl rfl) args H
theorem c_named (args : List Value) (H : Heap) : (run Try.prog E).call 90 args H = callB Try.prog E Try.f90 args H := call_B Try.func90 rfl (by decide +kernel) (hE.no _ rfl rfl) args H
theorem c_size (args : List Value) (H : Heap) : (run Try.prog E).call 75 args H = callB Try.prog E Try.f75 args H := call_B Try.func75 rfl (by decide +kernel) (hE.no _ rfl rfl) args H
theorem c_decls (args : List Value) (H : Heap) : (run Try.prog E).call 38 args H = callB Try.prog E Try.f38 args H := call_B Try.func38 rfl (by decide +kernel) (hE.no _ rfl rfl) args H
theorem c_proc (args : List Value) (H : Heap) : (run Try.prog E).call 40 args H = callB Try.prog E Try.f40 args H := call_B Try.func40 rfl (by decide +kernel) (hE.no _ rfl rfl) args H
theorem c_Parse (args : List Value) (H : Heap) : (run Try.prog E).call 13 args H = callB Try.prog E Try.f13 args H := call_B Try.func13 rfl (by decide +kernel) (hE.no _ rfl rfl) args H
theorem c_All (args : List Value) (H : Heap) : (run Try.prog E).call 35 args H = callB Try.prog E Try.f35 args H := call_B Try.func35 rfl (by decide +kernel) (hE.no _ rfl rfl) args H
theorem c_letter (args : List Value) (H : Heap) : (run Try.prog E).call 69 args H = callB Try.prog E Try.f69 args H := call_B Try.func69 rfl (by decide +kernel) (hE.no _ rfl rfl) args H
theorem c_digit (args : List Value) (H : Heap) : (run Try.prog E).call 70 args H = callB Try.prog E Try.f70 args H := call_B Try.func70 rfl (by decide +kernel) (hE.no _ rfl rfl) args H
theorem c_number (args : List Value) (H : Heap) : (run Try.prog E).call 72 args H = callB Try.prog E Try.f72 args H := call_B Try.func72 rfl (by decide +kernel) (hE.no _ rfl rfl) args H
theorem c_sign (args : List Value) (H : Heap) : (run Try.prog E).call 73 args H = callB Try.prog E Try.f73 args H := call_B Try.func73 rfl (by decide +kernel) (hE.no _ rfl rfl) args H
theorem c_Word (args : List Value) (H : Heap) : (run Try.prog E).call 71 args H = callB Try.prog E Try.f71 args H := call_B Try.func71 rfl (by decide +kernel) (hE.no _ rfl rfl) args H
end
end Go.Vm.Parse
namespace Go.Vm.Parse
open Go Go.Proofs
set_option maxRecDepth 100000
set_option linter.unusedSimpArgs false
set_option linter.unusedVariables false
attribute [local simp] repCells_succ writeAt rd_Fr toList_beq
theorem q_now0 : quiet Try.prog (drawN Try.f43 0) = true := by decide +kernel
theorem q_num0 : quiet Try.prog (drawN Try.f74 0) = true := by decide +kernel
theorem q_now1 : quiet Try.prog (drawN Try.f43 1) = true := by decide +kernel
theorem RD.get_push {H : Heap} {r lid : Nat} {L : List Tk} {s : PS} (h : RD H r lid L s) (o : AObj) : (H.push o).get r = .row true 0 1 [.slice (some ⟨lid, 0, none⟩) L.length L.length, .int .i64 s.p, .int .i64 s.c, .int .i64 s.a] := by
  rw [Heap.get_push, if_neg (Nat.ne_of_lt h.lt)]; exact h.obj
theorem tok_ge_kind {L : List Tk} {p : Nat} (h : (tok L p).kind ≠ 5) : p < L.length := by
  rcases Nat.lt_or_ge p L.length with h1 | h1
  · exact h1
  · rw [tok_ge h1] at h; exact absurd rfl h
section
variable {E : Hooks} (hE : Plain E) {H : Heap} {r lid : Nat} {L : List Tk} {s : PS} (h : RD H r lid L s)
include hE h
theorem now_run : ∃ H', (run Try.prog E).call 43 [.pointer (some ⟨r, 0, none⟩)] H = some (.val (tok L s.p).v, H') ∧ Same (fun _ => False) H H' := by
  obtain ⟨tl, ht⟩ := h.toks
  have hsm := h.small
  have hpl := h.place
  have hl := Heap.lt_of_get ht (by simp)
  have g1 := h.get_push
  have g2 : ∀ o, (H.push o).get lid = .row true tl 4 (flatT L) := fun o => by
    rw [Heap.get_push, if_neg (by omega)]; exact ht
  have key : Gives ((run Try.prog E).call 43 [.pointer (some ⟨r, 0, none⟩)] H) fun o H' => o = .val (tok L s.p).v ∧ Same (fun _ => False) H H' := by
    rw [c_now hE, callB, bodyOf]
    simp [Try.f43]
    refine region_quiet (by exact q_now0) ?_
    rcases Nat.lt_or_ge s.p L.length with hp | hp
    · simp [g1, show ¬ (s.p : Int) < 0 by omega, show ¬ L.length ≤ s.p by omega]
      refine region_quiet (by exact q_now1) ?_
      have hlen := flatT_length L
      have hget := flatT_get L s.p hp
      simp [g1, g2, hp, hlen, hget, show s.p * 4 + 4 ≤ 4 * L.length by omega, tok_lt hp, Tk.v, Tk.cells, Heap.get_push_self]
      exact Same.push _ _ _
    · simp [g1, show ¬ (s.p : Int) < 0 by omega, hp, tok_ge hp, endTk, Tk.v, Tk.cells, Heap.get_push_self]
      exact Same.push _ _ _
  obtain ⟨o, H', e, rfl, k⟩ := key
  exact ⟨H', e, k⟩
theorem bad_run : (run Try.prog E).call 45 [.pointer (some ⟨r, 0, none⟩)] H = some (.val (.bool (!decide (s.c = 0))), H) := by
  have hobj := h.obj
  rw [c_bad hE, callB, bodyOf]
  simp [Try.f45, hobj]
theorem is_run (x : ByteArray) : ∃ H', (run Try.prog E).call 76 [.pointer (some ⟨r, 0, none⟩), .string x] H = some (.val (.bool (isP L s x)), H') ∧ Same (fun _ => False) H H' := by
  obtain ⟨H1, e1, k1⟩ := now_run hE h
  have h2 := (h.same k1).same (Same.push _ _ (.row true 0 1 (tok L s.p).cells))
  have e2 := bad_run hE h2
  refine ⟨H1.push (.row true 0 1 (tok L s.p).cells), ?_, k1.then_push _⟩
  have key : Gives ((run Try.prog E).call 76 [.pointer (some ⟨r, 0, none⟩), .string x] H) fun o H' => o = .val (.bool (isP L s x)) ∧ H' = H1.push (.row true 0 1 (tok L s.p).cells) := by
    rw [c_is hE, callB, bodyOf]
    generalize htk : tok L s.p = tk at *
    unfold isP
    rw [htk]
    simp only [Tk.v, Tk.cells] at e1 e2 ⊢
    simp [Try.f76, e1, Heap.get_push_self, e2]
    by_cases hc : s.c = 0
    · by_cases hk : tk.kind = 3
      · simp [hc, hk, Heap.get_push_self]
      · by_cases hk4 : tk.kind = 4
        · simp [hc, hk, hk4, Heap.get_push_self]
        · simp [hc, hk, hk4, Heap.get_push_self]
    · simp [hc, Heap.get_push_self]
  obtain ⟨o, H', e, rfl, rfl⟩ := key
  exact e
theorem take_run (x : ByteArray) : ∃ H', (run Try.prog E).call 39 [.pointer (some ⟨r, 0, none⟩), .string x] H = some (.val (.bool (isP L s x)), H') ∧ Same (· = r) H H' ∧ RD H' r lid L (takeS L s x) := by
  obtain ⟨H1, e1, k1⟩ := is_run hE h x
  have h1 := h.same k1
  have hobj := h1.obj
  have hsm := h.small
  by_cases hi : isP L s x = true
  · have hlt : s.p < L.length := tok_ge_kind (by
      unfold isP at hi
      simp only [decide_eq_true_eq] at hi
      rcases hi.2.1 with h | h <;> omega)
    have h2 := h1.turn { s with p := s.p + 1 } (by show s.p + 1 ≤ _; omega)
    have key : Gives ((run Try.prog E).call 39 [.pointer (some ⟨r, 0, none⟩), .string x] H) fun o H' => o = .val (.bool (isP L s x)) ∧ H' = H1.set r (.row true 0 1 [.slice (some ⟨lid, 0, none⟩) L.length L.length, .int .i64 ((s.p + 1 : Nat) : Int), .int .i64 s.c, .int .i64 s.a]) := by
      rw [c_take hE, callB, bodyOf]
      rw [hi] at e1 ⊢
      have hw := wrap64 ((s.p : Int) + 1) (by omega) (by omega)
      simp [Try.f39, e1, hobj, hw]
    obtain ⟨o, H', e, rfl, rfl⟩ := key
    exact ⟨_, e, (Same.none (X := (· = r)) k1).then_set h1.lt (.inl rfl) _, by unfold takeS; rw [if_pos hi]; exact h2⟩
  · have hf : isP L s x = false := by simpa using hi
    refine ⟨H1, ?_, Same.none k1, by unfold takeS; rw [if_neg hi]; exact h1⟩
    have key : Gives ((run Try.prog E).call 39 [.pointer (some ⟨r, 0, none⟩), .string x] H) fun o H' => o = .val (.bool (isP L s x)) ∧ H' = H1 := by
      rw [c_take hE, callB, bodyOf]
      rw [hf] at e1 ⊢
      simp [Try.f39, e1]
    obtain ⟨o, H', e, rfl, rfl⟩ := key
    exact e
theorem fault_run (c : Int) : ∃ H', (run Try.prog E).call 44 [.pointer (some ⟨r, 0, none⟩), .int .i64 c] H = some (.val (.tuple #[]), H') ∧ Same (· = r) H H' ∧ RD H' r lid L (faultS L s c) := by
  have e0 := bad_run hE h
  by_cases hc : s.c = 0
  · obtain ⟨H1, e1, k1⟩ := now_run hE h
    have h1 := h.same k1
    have hobj := h1.obj
    have h2 := h1.turn { s with c := c, a := (tok L s.p).at_ } h.place
    have key : Gives ((run Try.prog E).call 44 [.pointer (some ⟨r, 0, none⟩), .int .i64 c] H) fun o H' => o = .val (.tuple #[]) ∧ H' = H1.set r (.row true 0 1 [.slice (some ⟨lid, 0, none⟩) L.length L.length, .int .i64 s.p, .int .i64 c, .int .i64 (tok L s.p).at_]) := by
      rw [c_fault hE, callB, bodyOf]
      simp only [Tk.v, Tk.cells] at e1
      simp [Try.f44, e0, e1, hc, hobj]
    obtain ⟨o, H', e, rfl, rfl⟩ := key
    exact ⟨_, e, (Same.none (X := (· = r)) k1).then_set h1.lt (.inl rfl) _, by unfold faultS; rw [if_pos hc]; exact h2⟩
  · refine ⟨H, ?_, Same.refl _ _, by unfold faultS; rw [if_neg hc]; exact h⟩
    have key : Gives ((run Try.prog E).call 44 [.pointer (some ⟨r, 0, none⟩), .int .i64 c] H) fun o H' => o = .val (.tuple #[]) ∧ H' = H := by
      rw [c_fault hE, callB, bodyOf]
      simp [Try.f44, e0, hc]
    obtain ⟨o, H', e, rfl, rfl⟩ := key
    exact e
theorem must_run (x : ByteArray) : ∃ H', (run Try.prog E).call 36 [.pointer (some ⟨r, 0, none⟩), .string x] H = some (.val (.tuple #[]), H') ∧ Same (· = r) H H' ∧ RD H' r lid L (mustS L s x) := by
  obtain ⟨H1, e1, k1, h1⟩ := take_run hE h x
  by_cases hi : isP L s x = true
  · refine ⟨H1, ?_, k1, by unfold mustS; unfold takeS at h1; rw [if_pos hi] at h1 ⊢; exact h1⟩
    have key : Gives ((run Try.prog E).call 36 [.pointer (some ⟨r, 0, none⟩), .string x] H) fun o H' => o = .val (.tuple #[]) ∧ H' = H1 := by
      rw [c_must hE, callB, bodyOf]
      rw [hi] at e1
      simp [Try.f36, e1]
    obtain ⟨o, H', e, rfl, rfl⟩ := key
    exact e
  · have hf : isP L s x = false := by simpa using hi
    have h1' : RD H1 r lid L s := by unfold takeS at h1; rw [if_neg hi] at h1; exact h1
    obtain ⟨H2, e2, k2, h2⟩ := fault_run hE h1' 14
    refine ⟨H2, ?_, k1.trans k2, by unfold mustS; rw [if_neg hi]; exact h2⟩
    have key : Gives ((run Try.prog E).call 36 [.pointer (some ⟨r, 0, none⟩), .string x] H) fun o H' => o = .val (.tuple #[]) ∧ H' = H2 := by
      rw [c_must hE, callB, bodyOf]
      rw [hf] at e1
      simp [Try.f36, e1, e2]
    obtain ⟨o, H', e, rfl, rfl⟩ := key
    exact e
end
/-- A name, and where it stands. -/
structure Idn where
  at_ : Int
  name : ByteArray
def Idn.cells (x : Idn) : List Value := [.int .i64 x.at_, .string x.name]
def nameP (L : List Tk) (s : PS) : Idn := if s.c = 0 ∧ (tok L s.p).kind = 1 then ⟨(tok L s.p).at_, (tok L s.p).text⟩ else ⟨0, ByteArray.empty⟩
def nameS (L : List Tk) (s : PS) : PS := if s.c = 0 ∧ (tok L s.p).kind = 1 then { s with p := s.p + 1 } else faultS L s 14
def numP (L : List Tk) (s : PS) : Int × Int := if s.c = 0 ∧ (tok L s.p).kind = 2 then ((tok L s.p).num, (tok L s.p).at_) else (0, 0)
def numS (L : List Tk) (s : PS) : PS := if s.c = 0 ∧ (tok L s.p).kind = 2 then { s with p := s.p + 1 } else faultS L s 14
def opensS (L : List Tk) (s : PS) (lv : Int) : PS := if 24 < lv then faultS L s 15 else s
theorem RD.set_new {H : Heap} {r lid : Nat} {L : List Tk} {s : PS} (h : RD H r lid L s) {i : Nat} (hi : i < H.n) (o : AObj) (hg : ∀ tl es cs, H.get i = .row true tl es cs → es = 1 ∧ cs.length = 2) : RD (H.set i o) r lid L s := by
  obtain ⟨tl, ht⟩ := h.toks
  refine ⟨?_, ⟨tl, ?_⟩, h.small, h.place⟩
  · rw [Heap.get_set _ _ _ hi, if_neg (fun e => by subst e; have := (hg _ _ _ h.obj).2; simp at this)]; exact h.obj
  · rw [Heap.get_set _ _ _ hi, if_neg (fun e => by subst e; have := (hg _ _ _ ht).1; omega)]; exact ht
section
variable {E : Hooks} (hE : Plain E) {H : Heap} {r lid : Nat} {L : List Tk} {s : PS} (h : RD H r lid L s)
include hE h
theorem name_run : ∃ H', (run Try.prog E).call 37 [.pointer (some ⟨r, 0, none⟩)] H = some (.val (.agg ⟨(nameP L s).cells⟩), H') ∧ Same (· = r) H H' ∧ RD H' r lid L (nameS L s) := by
  have h0 := h.same (Same.push _ _ (.row true 0 1 [.int .i64 0, .string ByteArray.empty]))
  obtain ⟨H1, e1, k1⟩ := now_run hE h0
  have g1 : H1.get H.n = .row true 0 1 [.int .i64 0, .string ByteArray.empty] := k1.at (Heap.get_push_self _ _) (by simp) (fun h => h)
  have hn1 : H.n < H1.n := by have := k1.n; simp at this; omega
  have h2 := (h0.same k1).same (Same.push _ _ (.row true 0 1 (tok L s.p).cells))
  have e2 := bad_run hE h2
  have g2 : (H1.push (.row true 0 1 (tok L s.p).cells)).get H.n = .row true 0 1 [.int .i64 0, .string ByteArray.empty] := by rw [Heap.get_push, if_neg (by omega)]; exact g1
  have g3 : (H1.push (.row true 0 1 (tok L s.p).cells)).get H1.n = .row true 0 1 (tok L s.p).cells := Heap.get_push_self _ _
  have kk : Same (· = r) H (H1.push (.row true 0 1 (tok L s.p).cells)) := (Same.none ((Same.push _ _ _).trans (k1.then_push _)))
  have hn2 : (H1.push (.row true 0 1 (tok L s.p).cells)).n = H1.n + 1 := rfl
  have hr1 : r < H.n := h.lt
  have hobj := h2.obj
  have hsm := h.small
  suffices key : Gives ((run Try.prog E).call 37 [.pointer (some ⟨r, 0, none⟩)] H) fun o H' => o = .val (.agg ⟨(nameP L s).cells⟩) ∧ Same (· = r) H H' ∧ RD H' r lid L (nameS L s) by
    obtain ⟨o, H', e, rfl, k⟩ := key
    exact ⟨H', e, k⟩
  rw [c_name hE, callB, bodyOf]
  by_cases hc : s.c = 0 ∧ (tok L s.p).kind = 1
  · have hlt : s.p < L.length := tok_ge_kind (by omega)
    have h3 := h2.turn { s with p := s.p + 1 } (by show s.p + 1 ≤ _; omega)
    have hnp : nameP L s = ⟨(tok L s.p).at_, (tok L s.p).text⟩ := by unfold nameP; rw [if_pos hc]
    have hns : nameS L s = { s with p := s.p + 1 } := by unfold nameS; rw [if_pos hc]
    rw [hnp, hns]
    generalize htk : tok L s.p = tk at *
    have hw := wrap64 ((s.p : Int) + 1) (by omega) (by omega)
    have hk1 : decide (tk.kind = 1) = true := by simpa using hc.2
    simp only [Tk.v, Tk.cells, Idn.cells] at *
    simp [Try.f37, e1]
    generalize hH2 : H1.push (.row true 0 1 [.int .i64 tk.kind, .int .i64 tk.at_, .int .i64 tk.num, .string tk.text]) = H2 at *
    have gs : ∀ o j, (H2.set r o).get j = if j = r then o else H2.get j := fun o j => Heap.get_set H2 r o (by omega) j
    have gs2 : ∀ o o' j, ((H2.set r o).set H.n o').get j = if j = H.n then o' else (H2.set r o).get j := fun o o' j => Heap.get_set _ H.n o' (by simp; omega) j
    simp [e2, g3, hc.1, hk1, hobj, hw, gs, gs2, show ¬ H1.n = r by omega, show ¬ H.n = r by omega, g2]
    refine ⟨(kk.then_set (by omega) (.inl rfl) _).then_set (by simp; omega) (.inr (Nat.le_refl _)) _, ?_⟩
    rw [hc.1] at h3
    exact h3.set_new (by simp; omega) _ fun tl es cs hg => by
      rw [gs, if_neg (by omega), g2] at hg
      cases hg; exact ⟨rfl, rfl⟩
  · have hnp : nameP L s = ⟨0, ByteArray.empty⟩ := by unfold nameP; rw [if_neg hc]
    have hns : nameS L s = faultS L s 14 := by unfold nameS; rw [if_neg hc]
    obtain ⟨H3, e3, k3, h3⟩ := fault_run hE h2 14
    have g4 : H3.get H.n = .row true 0 1 [.int .i64 0, .string ByteArray.empty] := k3.at g2 (by simp) (by omega)
    have hn3 := k3.n
    rw [hnp, hns]
    generalize htk : tok L s.p = tk at *
    simp only [Tk.v, Tk.cells, Idn.cells] at *
    simp [Try.f37, e1]
    generalize hH2 : H1.push (.row true 0 1 [.int .i64 tk.kind, .int .i64 tk.at_, .int .i64 tk.num, .string tk.text]) = H2 at *
    have gs : ∀ o j, (H3.set H.n o).get j = if j = H.n then o else H3.get j := fun o j => Heap.get_set H3 H.n o (by omega) j
    have fin : Same (· = r) H (H3.set H.n (.row true 0 1 [.int .i64 0, .string ByteArray.empty])) ∧ RD (H3.set H.n (.row true 0 1 [.int .i64 0, .string ByteArray.empty])) r lid L (faultS L s 14) :=
      ⟨(kk.trans k3).then_set (by omega) (.inr (Nat.le_refl _)) _, h3.set_new (by omega) _ fun tl es cs hg => by
        rw [g4] at hg
        cases hg; exact ⟨rfl, rfl⟩⟩
    by_cases h0 : s.c = 0
    · have hk : ¬ tk.kind = 1 := fun e => hc ⟨h0, e⟩
      simp [e2, g3, h0, hk, e3, g4, gs]
      exact fin
    · simp [e2, g3, h0, e3, g4, gs]
      exact fin
theorem num_run : ∃ H', (run Try.prog E).call 74 [.pointer (some ⟨r, 0, none⟩)] H = some (.val (.tuple #[.int .i64 (numP L s).1, .int .i64 (numP L s).2]), H') ∧ Same (· = r) H H' ∧ RD H' r lid L (numS L s) := by
  obtain ⟨H1, e1, k1⟩ := now_run hE h
  have h2 := (h.same k1).same (Same.push _ _ (.row true 0 1 (tok L s.p).cells))
  have e2 := bad_run hE h2
  have g3 : (H1.push (.row true 0 1 (tok L s.p).cells)).get H1.n = .row true 0 1 (tok L s.p).cells := Heap.get_push_self _ _
  have kk : Same (· = r) H (H1.push (.row true 0 1 (tok L s.p).cells)) := Same.none (k1.then_push _)
  have hn2 : (H1.push (.row true 0 1 (tok L s.p).cells)).n = H1.n + 1 := rfl
  have hr1 : r < H.n := h.lt
  have hn1 := k1.n
  have hobj := h2.obj
  have hsm := h.small
  suffices key : Gives ((run Try.prog E).call 74 [.pointer (some ⟨r, 0, none⟩)] H) fun o H' => o = .val (.tuple #[.int .i64 (numP L s).1, .int .i64 (numP L s).2]) ∧ Same (· = r) H H' ∧ RD H' r lid L (numS L s) by
    obtain ⟨o, H', e, rfl, k⟩ := key
    exact ⟨H', e, k⟩
  rw [c_num hE, callB, bodyOf]
  by_cases hc : s.c = 0 ∧ (tok L s.p).kind = 2
  · have hlt : s.p < L.length := tok_ge_kind (by omega)
    have h3 := h2.turn { s with p := s.p + 1 } (by show s.p + 1 ≤ _; omega)
    have hnp : numP L s = ((tok L s.p).num, (tok L s.p).at_) := by unfold numP; rw [if_pos hc]
    have hns : numS L s = { s with p := s.p + 1 } := by unfold numS; rw [if_pos hc]
    rw [hnp, hns]
    generalize htk : tok L s.p = tk at *
    have hw := wrap64 ((s.p : Int) + 1) (by omega) (by omega)
    have hk1 : decide (tk.kind = 2) = true := by simpa using hc.2
    simp only [Tk.v, Tk.cells] at *
    simp [Try.f74, e1]
    generalize hH2 : H1.push (.row true 0 1 [.int .i64 tk.kind, .int .i64 tk.at_, .int .i64 tk.num, .string tk.text]) = H2 at *
    have gs : ∀ o j, (H2.set r o).get j = if j = r then o else H2.get j := fun o j => Heap.get_set H2 r o (by omega) j
    simp [e2, g3, hc.1, hk1, hobj, hw, gs, show ¬ H1.n = r by omega]
    refine region_quiet (by exact q_num0) ?_
    simp [g3, gs, show ¬ H1.n = r by omega]
    rw [hc.1] at h3
    exact ⟨kk.then_set (by omega) (.inl rfl) _, h3⟩
  · have hnp : numP L s = (0, 0) := by unfold numP; rw [if_neg hc]
    have hns : numS L s = faultS L s 14 := by unfold numS; rw [if_neg hc]
    obtain ⟨H3, e3, k3, h3⟩ := fault_run hE h2 14
    rw [hnp, hns]
    generalize htk : tok L s.p = tk at *
    simp only [Tk.v, Tk.cells] at *
    simp [Try.f74, e1]
    generalize hH2 : H1.push (.row true 0 1 [.int .i64 tk.kind, .int .i64 tk.at_, .int .i64 tk.num, .string tk.text]) = H2 at *
    by_cases h0 : s.c = 0
    · have hk : ¬ tk.kind = 2 := fun e => hc ⟨h0, e⟩
      simp [e2, g3, h0, hk, e3]
      exact ⟨kk.trans k3, h3⟩
    · simp [e2, g3, h0, e3]
      exact ⟨kk.trans k3, h3⟩
theorem opens_run (lv : Int) : ∃ H', (run Try.prog E).call 108 [.pointer (some ⟨r, 0, none⟩), .int .i64 lv] H = some (.val (.bool (decide ((opensS L s lv).c = 0))), H') ∧ Same (· = r) H H' ∧ RD H' r lid L (opensS L s lv) := by
  suffices key : Gives ((run Try.prog E).call 108 [.pointer (some ⟨r, 0, none⟩), .int .i64 lv] H) fun o H' => o = .val (.bool (decide ((opensS L s lv).c = 0))) ∧ Same (· = r) H H' ∧ RD H' r lid L (opensS L s lv) by
    obtain ⟨o, H', e, rfl, k⟩ := key
    exact ⟨H', e, k⟩
  rw [c_opens hE, callB, bodyOf]
  by_cases hc : 24 < lv
  · obtain ⟨H3, e3, k3, h3⟩ := fault_run hE h 15
    have e4 := bad_run hE h3
    have hns : opensS L s lv = faultS L s 15 := by unfold opensS; rw [if_pos hc]
    rw [hns]
    simp [Try.f108, hc, e3, e4]
    exact ⟨k3, h3⟩
  · have e4 := bad_run hE h
    have hns : opensS L s lv = s := by unfold opensS; rw [if_neg hc]
    rw [hns]
    simp [Try.f108, hc, e4]
    exact ⟨Same.refl _ _, h⟩
end
end Go.Vm.Parse
namespace Go.Vm.Parse
open Go Go.Proofs
set_option maxRecDepth 100000
set_option maxHeartbeats 1000000
set_option linter.unusedSimpArgs false
set_option linter.unusedVariables false
attribute [local simp] repCells_succ writeAt rd_Fr toList_beq gpe gpn spe gse gsn ne_r0 ne_l0 le_s0 ne_r1 ne_l1 lt_s1 le_s1 ne_r2 ne_l2 lt_s2 le_s2 ne_r3 ne_l3 lt_s3 le_s3 ne_r4 ne_l4 lt_s4 le_s4 ne_r5 ne_l5 lt_s5 le_s5 ne_r6 ne_l6 lt_s6 le_s6 ne_r7 ne_l7 lt_s7 le_s7
/-- The signs: text, row, instruction. -/
def opsL : List (ByteArray × Int × Int) := [(⟨#[111, 114]⟩, 1, 22), (⟨#[97, 110, 100]⟩, 2, 21), (⟨#[61]⟩, 4, 15), (⟨#[60, 62]⟩, 4, 16), (⟨#[60]⟩, 4, 17), (⟨#[60, 61]⟩, 4, 18), (⟨#[62]⟩, 4, 19), (⟨#[62, 61]⟩, 4, 20), (⟨#[43]⟩, 5, 9), (⟨#[45]⟩, 5, 10), (⟨#[42]⟩, 6, 11), (⟨#[47]⟩, 6, 12), (⟨#[37]⟩, 6, 13)]
def opFrom (k : Int) (x : ByteArray) : List (ByteArray × Int × Int) → Int
  | [] => 0
  | (t, r, o) :: l => if t = x ∧ r = k then o else opFrom k x l
def opP (L : List Tk) (s : PS) (k : Int) : Int := if s.c = 0 ∧ ((tok L s.p).kind = 4 ∨ (tok L s.p).kind = 3) then opFrom k (tok L s.p).text opsL else 0
theorem opFrom_drop (k : Int) (x : ByteArray) {i : Nat} (h : i < opsL.length) : opFrom k x (opsL.drop i) = if opsL[i].1 = x ∧ opsL[i].2.1 = k then opsL[i].2.2 else opFrom k x (opsL.drop (i + 1)) := by
  rw [List.drop_eq_getElem_cons h]; rfl
theorem b_signs : exBuild Try.prog 178 [(0, Value.string { data := #[111, 114] }), (1, Value.string { data := #[97, 110, 100] }), (2, Value.string { data := #[61] }), (3, Value.string { data := #[60, 62] }), (4, Value.string { data := #[60] }), (5, Value.string { data := #[60, 61] }), (6, Value.string { data := #[62] }), (7, Value.string { data := #[62, 61] }), (8, Value.string { data := #[43] }), (9, Value.string { data := #[45] }), (10, Value.string { data := #[42] }), (11, Value.string { data := #[47] }), (12, Value.string { data := #[37] })] = some (.agg ⟨opsL.map fun x => .string x.1⟩) := by kernel_rfl
theorem b_rows : exBuild Try.prog 179 [(0, Value.int .i64 1), (1, Value.int .i64 2), (2, Value.int .i64 4), (3, Value.int .i64 4), (4, Value.int .i64 4), (5, Value.int .i64 4), (6, Value.int .i64 4), (7, Value.int .i64 4), (8, Value.int .i64 5), (9, Value.int .i64 5), (10, Value.int .i64 6), (11, Value.int .i64 6), (12, Value.int .i64 6)] = some (.agg ⟨opsL.map fun x => .int .i64 x.2.1⟩) := by kernel_rfl
theorem b_ops : exBuild Try.prog 179 [(0, Value.int .i64 22), (1, Value.int .i64 21), (2, Value.int .i64 15), (3, Value.int .i64 16), (4, Value.int .i64 17), (5, Value.int .i64 18), (6, Value.int .i64 19), (7, Value.int .i64 20), (8, Value.int .i64 9), (9, Value.int .i64 10), (10, Value.int .i64 11), (11, Value.int .i64 12), (12, Value.int .i64 13)] = some (.agg ⟨opsL.map fun x => .int .i64 x.2.2⟩) := by kernel_rfl
theorem q_op0 : quiet Try.prog (drawN Try.f109 0) = true := by decide +kernel
section
variable {E : Hooks} (hE : Plain E) {H : Heap} {r lid : Nat} {L : List Tk} {s : PS} (h : RD H r lid L s)
include hE h
theorem op_run (k : Int) : ∃ H', (run Try.prog E).call 109 [.pointer (some ⟨r, 0, none⟩), .int .i64 k] H = some (.val (.int .i64 (opP L s k)), H') ∧ Same (fun _ => False) H H' := by
  obtain ⟨H1, e1, k1⟩ := now_run hE h
  have h2 := (h.same k1).same (Same.push _ _ (.row true 0 1 (tok L s.p).cells))
  have e2 := bad_run hE h2
  have g3 : (H1.push (.row true 0 1 (tok L s.p).cells)).get H1.n = .row true 0 1 (tok L s.p).cells := Heap.get_push_self _ _
  have kk : Same (fun _ => False) H (H1.push (.row true 0 1 (tok L s.p).cells)) := k1.then_push _
  have hn1 := k1.n
  have hn2 : (H1.push (.row true 0 1 (tok L s.p).cells)).n = H1.n + 1 := rfl
  suffices key : Gives ((run Try.prog E).call 109 [.pointer (some ⟨r, 0, none⟩), .int .i64 k] H) fun o H' => o = .val (.int .i64 (opP L s k)) ∧ Same (fun _ => False) H H' by
    obtain ⟨o, H', e, rfl, k⟩ := key
    exact ⟨H', e, k⟩
  rw [c_op hE, callB, bodyOf]
  by_cases hc : s.c = 0 ∧ ((tok L s.p).kind = 4 ∨ (tok L s.p).kind = 3)
  · have hop : opP L s k = opFrom k (tok L s.p).text opsL := by unfold opP; rw [if_pos hc]
    rw [hop]
    generalize htk : tok L s.p = tk at *
    simp only [Tk.v, Tk.cells] at *
    simp [Try.f109, e1]
    generalize hH2 : H1.push (.row true 0 1 [.int .i64 tk.kind, .int .i64 tk.at_, .int .i64 tk.num, .string tk.text]) = H2 at *
    have hlen : opsL.length = 13 := rfl
    have hlt12 : H1.n < H2.n := by omega
    have hk1 : (decide (tk.kind = 4) = true ∧ decide (tk.kind = 3) = false) ∨ (decide (tk.kind = 4) = false ∧ decide (tk.kind = 3) = true) := by
      rcases hc.2 with h | h <;> simp [h]
    rcases hk1 with ⟨h4, h3⟩ | ⟨h4, h3⟩
    all_goals
      simp [-build_eq, b_signs, b_rows, b_ops, e2, g3, hc.1, h4, h3, hlen]
      refine loop_wp (fun m t H' => ∃ i : Nat, i + m = 13 ∧ rd t 9 = .int .i64 i ∧ H' = (((H2.push (.row true 0 1 (opsL.map fun x => .string x.1))).push (.row true 0 1 (opsL.map fun x => .int .i64 x.2.1))).push (.row true 0 1 (opsL.map fun x => .int .i64 x.2.2))) ∧ opFrom k tk.text opsL = opFrom k tk.text (opsL.drop i)) 13 ?_ ?_
      · exact ⟨0, rfl, by simp, rfl, rfl⟩
      rintro m t H' hk ⟨i, hi, g9, rfl, ho⟩
      have ht : t.length = 47 := hk.1.trans (by simp [len_Bs])
      have hh := hk.all [0, 1, 5, 6, 7, 8] (by decide +kernel)
      simp at hh
      obtain ⟨a0, a1, a5, a6, a7, a8⟩ := hh
      have fin : Same (fun _ => False) H (((H2.push (.row true 0 1 (opsL.map fun x => .string x.1))).push (.row true 0 1 (opsL.map fun x => .int .i64 x.2.1))).push (.row true 0 1 (opsL.map fun x => .int .i64 x.2.2))) := ((kk.then_push _).then_push _).then_push _
      by_cases hm : m = 0
      · subst hm
        obtain rfl : i = 13 := by omega
        have h0 : opFrom k tk.text (opsL.drop 13) = 0 := rfl
        rw [ho, h0]
        simp [ht, g9]
        exact fin
      · have hi13 : i < opsL.length := by omega
        have hi : i < 13 := by omega
        have hop2 := opFrom_drop k tk.text hi13
        rw [ho]
        have hw := wrap64 ((i : Int) + 1) (by omega) (by omega)
        have hq := List.getElem?_eq_getElem hi13
        generalize opsL[i] = q at hop2 hq
        obtain ⟨q1, q2, q3⟩ := q
        simp only [] at hop2
        rw [hop2]
        simp [ht, g9, show (i : Int) < 13 by omega]
        refine region_quiet (by exact q_op0) ?_
        by_cases c1 : q1 = tk.text
        · by_cases c2 : q2 = k
          · simp [ht, g9, a0, a1, a5, a6, a7, a8, hi, hq, c1, c2, hlt12, g3]
            exact fin
          · simp [ht, g9, a0, a1, a5, a6, a7, a8, hi, hq, c1, c2, hlt12, g3, hw]
            exact ⟨m - 1, by omega, i + 1, by omega, by simp, rfl⟩
        · simp [ht, g9, a0, a1, a5, a6, a7, a8, hi, hq, c1, hlt12, g3, hw]
          exact ⟨m - 1, by omega, i + 1, by omega, by simp, rfl⟩
  · have hop : opP L s k = 0 := by unfold opP; rw [if_neg hc]
    rw [hop]
    generalize htk : tok L s.p = tk at *
    simp only [Tk.v, Tk.cells] at *
    simp [Try.f109, e1]
    generalize hH2 : H1.push (.row true 0 1 [.int .i64 tk.kind, .int .i64 tk.at_, .int .i64 tk.num, .string tk.text]) = H2 at *
    by_cases h0 : s.c = 0
    · have h4 : ¬ tk.kind = 4 := fun e => hc ⟨h0, .inl e⟩
      have h3 : ¬ tk.kind = 3 := fun e => hc ⟨h0, .inr e⟩
      simp [-build_eq, e2, g3, h0, h4, h3]
      exact kk
    · simp [-build_eq, e2, g3, h0]
      exact kk
end
end Go.Vm.Parse
namespace Go.Vm.Parse
open Go Go.Proofs
set_option maxRecDepth 100000
set_option maxHeartbeats 1000000
set_option linter.unusedSimpArgs false
set_option linter.unusedVariables false
inductive Ex where
  | mk (kind at_ num op : Int) (name : ByteArray) (sub : List Ex)
def Ex.zero : Ex := .mk 0 0 0 0 ByteArray.empty []
mutual
/-- An expression's cells; of its parts each stands in rows among S. -/
def RE (H : Heap) (S : Nat → Prop) : Ex → List Value → Prop
  | .mk kind at_ num op name sub, cs => ∃ v, cs = [.int .i64 kind, .int .i64 at_, .int .i64 num, .int .i64 op, .string name, v] ∧
    ((v = .slice none 0 0 ∧ sub = []) ∨ ∃ id tl cs', v = .slice (some ⟨id, 0, none⟩) sub.length sub.length ∧ S id ∧ H.get id = .row true tl 6 cs' ∧ REs H S sub cs')
def REs (H : Heap) (S : Nat → Prop) : List Ex → List Value → Prop
  | [], cs => cs = []
  | e :: es, cs => ∃ c1 c2, cs = c1 ++ c2 ∧ RE H S e c1 ∧ REs H S es c2
end
mutual
theorem RE.move {X S S' : Nat → Prop} {H H' : Heap} (k : Same X H H') (hs : ∀ i, S i → i < H.n → S' i ∧ ¬ X i) : ∀ (e : Ex) (cs : List Value), RE H S e cs → RE H' S' e cs
  | .mk kind at_ num op name sub, cs, h => by
    simp only [RE] at h ⊢
    obtain ⟨v, h1, h2⟩ := h
    refine ⟨v, h1, h2.imp id ?_⟩
    rintro ⟨id, tl, cs', h3, h4, h5, h6⟩
    have := hs id h4 (Heap.lt_of_get h5 (by simp))
    exact ⟨id, tl, cs', h3, this.1, k.at h5 (by simp) this.2, REs.move k hs sub cs' h6⟩
theorem REs.move {X S S' : Nat → Prop} {H H' : Heap} (k : Same X H H') (hs : ∀ i, S i → i < H.n → S' i ∧ ¬ X i) : ∀ (es : List Ex) (cs : List Value), REs H S es cs → REs H' S' es cs
  | [], cs, h => by simp only [REs] at h ⊢; exact h
  | e :: es, cs, h => by
    simp only [REs] at h ⊢
    obtain ⟨c1, c2, h1, h2, h3⟩ := h
    exact ⟨c1, c2, h1, RE.move k hs e c1 h2, REs.move k hs es c2 h3⟩
end
theorem RE.len {H : Heap} {S : Nat → Prop} {e : Ex} {cs : List Value} (h : RE H S e cs) : cs.length = 6 := by
  cases e
  simp only [RE] at h
  obtain ⟨v, rfl, _⟩ := h
  rfl
theorem RE.six {H : Heap} {S : Nat → Prop} {e : Ex} {cs : List Value} (h : RE H S e cs) : ∃ a b c d x v, cs = [.int .i64 a, .int .i64 b, .int .i64 c, .int .i64 d, .string x, v] ∧ isTuple v = false ∧ v.cells.toList = [v] := by
  cases e
  simp only [RE] at h
  obtain ⟨v, rfl, h⟩ := h
  refine ⟨_, _, _, _, _, v, rfl, ?_⟩
  rcases h with ⟨rfl, _⟩ | ⟨id, tl, cs', rfl, _⟩ <;> exact ⟨rfl, rfl⟩
theorem RE.nil (H : Heap) (S : Nat → Prop) (a b c d : Int) (x : ByteArray) : RE H S (.mk a b c d x []) [.int .i64 a, .int .i64 b, .int .i64 c, .int .i64 d, .string x, .slice none 0 0] := by
  simp only [RE]
  exact ⟨_, rfl, .inl ⟨rfl, trivial⟩⟩
theorem RE.parts {H : Heap} {S : Nat → Prop} (a b c d : Int) (x : ByteArray) {sub : List Ex} {id tl : Nat} {cs : List Value} (hS : S id) (hg : H.get id = .row true tl 6 cs) (h : REs H S sub cs) :
    RE H S (.mk a b c d x sub) [.int .i64 a, .int .i64 b, .int .i64 c, .int .i64 d, .string x, .slice (some ⟨id, 0, none⟩) sub.length sub.length] := by
  simp only [RE]
  exact ⟨_, rfl, .inr ⟨id, tl, cs, rfl, hS, hg, h⟩⟩
theorem REs.one {H : Heap} {S : Nat → Prop} {e : Ex} {cs : List Value} (h : RE H S e cs) : REs H S [e] cs := by
  simp only [REs]
  exact ⟨cs, [], (List.append_nil _).symm, h, rfl⟩
theorem REs.two {H : Heap} {S : Nat → Prop} {e f : Ex} {cs ds : List Value} (h : RE H S e cs) (k : RE H S f ds) : REs H S [e, f] (cs ++ ds) := by
  simp only [REs]
  exact ⟨cs, ds, rfl, h, ds, [], (List.append_nil _).symm, k, rfl⟩

/-! ### The reader of expressions -/
inductive XC where
  | row (k lv : Int)
  | loop (k lv : Int) (x : Ex)
  | fact (lv : Int)
  | index (lv : Int)
def b1 (c : UInt8) : ByteArray := ⟨#[c]⟩
def tNot : ByteArray := ⟨#[110, 111, 116]⟩
def tTrue : ByteArray := ⟨#[116, 114, 117, 101]⟩
def tFalse : ByteArray := ⟨#[102, 97, 108, 115, 101]⟩
def PS.on (s : PS) : PS := { s with p := s.p + 1 }
def xP (L : List Tk) : Nat → XC → PS → Option (Ex × PS)
  | 0, _, _ => none
  | n + 1, .row k lv, s =>
    if s.c ≠ 0 then some (.zero, s)
    else if k = 7 then xP L n (.fact lv) s
    else if k = 3 then
      if isP L s tNot = false then xP L n (.row 4 lv) s
      else if (opensS L s (lv + 1)).c ≠ 0 then some (.zero, opensS L s (lv + 1))
      else (xP L n (.row 3 (lv + 1)) (opensS L s (lv + 1)).on).map fun q => (.mk 5 (tok L s.p).at_ 0 23 ByteArray.empty [q.1], q.2)
    else (xP L n (.row (k + 1) lv) s).bind fun q => xP L n (.loop k lv q.1) q.2
  | n + 1, .loop k lv x, s =>
    if opP L s k = 0 then some (x, s)
    else (xP L n (.row (k + 1) lv) s.on).bind fun q =>
      if k = 4 then some (.mk 6 (tok L s.p).at_ 0 (opP L s k) ByteArray.empty [x, q.1], q.2)
      else xP L n (.loop k lv (.mk 6 (tok L s.p).at_ 0 (opP L s k) ByteArray.empty [x, q.1])) q.2
  | n + 1, .fact lv, s =>
    if isP L s (b1 45) = true then
      if (opensS L s (lv + 1)).c ≠ 0 then some (.zero, opensS L s (lv + 1))
      else (xP L n (.fact (lv + 1)) (opensS L s (lv + 1)).on).map fun q => (.mk 5 (tok L s.p).at_ 0 14 ByteArray.empty [q.1], q.2)
    else if (tok L s.p).kind = 2 then some (.mk 1 (tok L s.p).at_ (tok L s.p).num 0 ByteArray.empty [], s.on)
    else if isP L s tTrue = true then some (.mk 2 (tok L s.p).at_ 1 0 ByteArray.empty [], s.on)
    else if isP L s tFalse = true then some (.mk 2 (tok L s.p).at_ 0 0 ByteArray.empty [], s.on)
    else if isP L s (b1 40) = true then
      if (opensS L s (lv + 1)).c ≠ 0 then some (.zero, opensS L s (lv + 1))
      else (xP L n (.row 1 (lv + 1)) (opensS L s (lv + 1)).on).map fun q => (q.1, mustS L q.2 (b1 41))
    else if (tok L s.p).kind = 1 then
      if isP L s.on (b1 91) = false then some (.mk 3 (tok L s.p).at_ 0 0 (tok L s.p).text [], s.on)
      else (xP L n (.index lv) s.on).map fun q => (.mk 4 (tok L s.p).at_ 0 0 (tok L s.p).text [q.1], q.2)
    else some (.zero, faultS L s 14)
  | n + 1, .index lv, s =>
    if isP L s (b1 91) = false then some (.zero, faultS L s 14)
    else if (opensS L s (lv + 1)).c ≠ 0 then some (.zero, faultS L (opensS L s (lv + 1)) 14)
    else (xP L n (.row 1 (lv + 1)) (opensS L s (lv + 1)).on).map fun q => (q.1, mustS L q.2 (b1 93))

/-! ### What a call that reads an expression must give -/
def RetE (H : Heap) (r lid : Nat) (L : List Tk) (e : Ex) (s : PS) (o : Out) (H' : Heap) : Prop :=
  ∃ cs, o = .val (.agg ⟨cs⟩) ∧ Same (· = r) H H' ∧ RD H' r lid L s ∧ RE H' (fun i => H.n ≤ i) e cs
theorem RD.lid_lt {H : Heap} {r lid : Nat} {L : List Tk} {s : PS} (h : RD H r lid L s) : lid < H.n := by
  obtain ⟨tl, h2⟩ := h.toks
  exact Heap.lt_of_get h2 (by simp)
theorem RD.keep {X : Nat → Prop} {H H' : Heap} {r lid : Nat} {L : List Tk} {s : PS} (h : RD H r lid L s) (k : Same X H H') (hr : ¬ X r) (hl : ¬ X lid) : RD H' r lid L s := by
  obtain ⟨tl, h2⟩ := h.toks
  exact ⟨k.at h.obj (by simp) hr, ⟨tl, k.at h2 (by simp) hl⟩, h.small, h.place⟩
theorem RD.step {A H : Heap} {r lid : Nat} {L : List Tk} {s : PS} (h : RD H r lid L s) (k : Same (· = r) A H) (s' : PS) (hp : s'.p ≤ L.length) :
    Same (· = r) A (H.set r (.row true 0 1 [.slice (some ⟨lid, 0, none⟩) L.length L.length, .int .i64 s'.p, .int .i64 s'.c, .int .i64 s'.a])) ∧
      RD (H.set r (.row true 0 1 [.slice (some ⟨lid, 0, none⟩) L.length L.length, .int .i64 s'.p, .int .i64 s'.c, .int .i64 s'.a])) r lid L s' := ⟨k.then_set h.lt (.inl rfl) _, h.turn s' hp⟩
theorem RD.on {A H : Heap} {r lid : Nat} {L : List Tk} {s : PS} (h : RD H r lid L s) (k : Same (· = r) A H) (hc : s.c = 0) (hp : s.p < L.length) :
    Same (· = r) A (H.set r (.row true 0 1 [.slice (some ⟨lid, 0, none⟩) L.length L.length, .int .i64 (s.p + 1), .int .i64 0, .int .i64 s.a])) ∧
      RD (H.set r (.row true 0 1 [.slice (some ⟨lid, 0, none⟩) L.length L.length, .int .i64 (s.p + 1), .int .i64 0, .int .i64 s.a])) r lid L s.on := by
  have := h.step k s.on (by show s.p + 1 ≤ _; omega)
  simp only [PS.on, hc, Int.natCast_add, Int.natCast_one] at this
  simp only [PS.on, hc]
  exact this
theorem RD.on2 {A H : Heap} {r lid : Nat} {L : List Tk} {s : PS} (h : RD H r lid L s) (k : Same (· = r) A H) (hp : s.p < L.length) :
    Same (· = r) A (H.set r (.row true 0 1 [.slice (some ⟨lid, 0, none⟩) L.length L.length, .int .i64 (s.p + 1), .int .i64 s.c, .int .i64 s.a])) ∧
      RD (H.set r (.row true 0 1 [.slice (some ⟨lid, 0, none⟩) L.length L.length, .int .i64 (s.p + 1), .int .i64 s.c, .int .i64 s.a])) r lid L s.on := by
  have := h.step k s.on (by show s.p + 1 ≤ _; omega)
  simp only [PS.on, Int.natCast_add, Int.natCast_one] at this
  simp only [PS.on]
  exact this
theorem isP_lt {L : List Tk} {s : PS} {x : ByteArray} (h : isP L s x = true) : s.p < L.length := tok_ge_kind (by
  unfold isP at h
  simp only [decide_eq_true_eq] at h
  rcases h.2.1 with h | h <;> omega)
/-- What stands in the variable that is handed back. -/
theorem ret_store {H H1 : Heap} {r lid : Nat} {L : List Tk} {s s' : PS} {z : AObj} (h : RD H r lid L s) (k : Same (· = r) (H.push z) H1) (h1 : RD H1 r lid L s') {e : Ex} {cs : List Value} (he : RE H1 (fun i => H.n + 1 ≤ i) e cs) (o : AObj) :
    Same (· = r) H (H1.set H.n o) ∧ RD (H1.set H.n o) r lid L s' ∧ RE (H1.set H.n o) (fun i => H.n ≤ i) e cs := by
  have hn := k.n
  simp at hn
  have hr := h.lt
  have hl := h.lid_lt
  have ks : Same (fun i => i = H.n) H1 (H1.set H.n o) := Same.set (X := fun i => i = H.n) H1 (by omega) rfl o
  refine ⟨(Same.push _ _ _).trans k |>.then ks (fun i hi => .inr (by omega)), h1.keep ks (by omega) (by omega), RE.move ks (fun i hi hlt => ⟨by omega, by omega⟩) _ _ he⟩
/-- The same, with a row of one expression made ahead of it. -/
theorem ret_one {H H1 : Heap} {r lid : Nat} {L : List Tk} {s s' : PS} {z : AObj} (h : RD H r lid L s) (k : Same (· = r) (H.push z) H1) (h1 : RD H1 r lid L s') {e : Ex} {cs : List Value} (he : RE H1 (fun i => H.n + 1 ≤ i) e cs) (o : AObj) (a b c d : Int) (x : ByteArray) :
    Same (· = r) H ((H1.push (.row true 0 6 cs)).set H.n o) ∧ RD ((H1.push (.row true 0 6 cs)).set H.n o) r lid L s' ∧ RE ((H1.push (.row true 0 6 cs)).set H.n o) (fun i => H.n ≤ i) (.mk a b c d x [e]) [.int .i64 a, .int .i64 b, .int .i64 c, .int .i64 d, .string x, .slice (some ⟨H1.n, 0, none⟩) 1 1] := by
  have hn := k.n
  simp at hn
  have k2 := k.then_push (.row true 0 6 cs)
  have h2 := h1.same (Same.push _ _ (.row true 0 6 cs))
  have e2 : RE (H1.push (.row true 0 6 cs)) (fun i => H.n + 1 ≤ i) e cs := RE.move (Same.push (fun _ => False) _ _) (fun i hi hlt => ⟨hi, fun h => h⟩) _ _ he
  have e3 : RE (H1.push (.row true 0 6 cs)) (fun i => H.n + 1 ≤ i) (.mk a b c d x [e]) _ := RE.parts a b c d x (id := H1.n) hn (Heap.get_push_self _ _) (REs.one e2)
  exact ret_store h k2 h2 e3 o
end Go.Vm.Parse
