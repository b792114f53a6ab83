/- What is proved: what a call of package stack turns. -/
import Derived.Test.YtndegebcamcecaaStackCall2
namespace Go.Vm.StackLaw
open Go Go.Proofs
set_option maxRecDepth 100000
set_option linter.unusedSimpArgs false
attribute [local simp] repCells_succ writeAt rd_Fr
/-- The words behind a call. -/
def Called (a u n base locals : Nat) (back : Int) (zs zs' : List Int) : Prop := zs'.length = zs.length ∧
  ∀ j, zs'.getD j 0 = if j = a + (base + locals + 1) then (base : Int) else if j = a + (base + locals) then back else if a + u ≤ j ∧ j < a + u + n then 0 else zs.getD j 0
theorem getD_set (xs : List Int) (i j : Nat) (x : Int) (hi : i < xs.length) : (xs.set i x).getD j 0 = if j = i then x else xs.getD j 0 := by
  rw [List.getD_eq_getElem?_getD, List.getElem?_set]
  by_cases h : j = i
  · subst h; rw [if_pos rfl, if_pos hi, if_pos rfl]; rfl
  · rw [if_neg (fun e => h e.symm), if_neg h, ← List.getD_eq_getElem?_getD]
section
variable {H : Heap} {k sp q : Nat} {rf : Option Nat} {a s u : Nat} {fs : List Fm} {zs : List Int} (h : St H k sp q rf a s u fs zs)
set_option linter.unusedSectionVars false
include h
theorem call_run (back : Int) (params n : Nat) (h2 : (params : Int) ≤ StackLaw.opn u fs) (hl : fs.length < 10000) (h4 : n + 2 ≤ s - u) (hpu : params ≤ u) :
    Gives (W.call 13 [ptr k, iv back, iv params, iv (params + n : Nat)] H) fun o H' => o = .val (iv 0) ∧ ∃ rf' zs', St H' k sp q rf' a s (u + n + 2) (((u - params : Nat), (params + n : Nat), back) :: fs) zs' ∧
      Called a u n (u - params) (params + n) back zs zs' ∧ Same (fun i => i = k ∨ i = q ∨ rf = some i) H H' ∧ Newer H rf rf' := by
  obtain ⟨H1, e1, T1, f1⟩ := h.opn
  have hbig := h.big
  have hfit := h.fit
  have hus := h.used
  obtain ⟨⟨v1, g1, _⟩, _⟩ := T1.cur
  simp only [ptr_eq, iv_eq] at e1 g1
  rw [c13, callB, bodyOf]
  simp [Try.f13, show ¬ (params : Int) < 0 by omega, show ¬ (params : Int) + n < params by omega, e1, show ¬ StackLaw.opn u fs < params by omega]
  refine region_quiet (by exact q13) ?_
  simp [g1, show (params : Int) + n - params = n by omega, wrap64 (n : Int) (by omega) (by omega), wrap64 ((s : Int) - u) (by omega) (by omega), wrap64 ((s : Int) - u - 2) (by omega) (by omega), show ¬ (s : Int) - u - 2 < n by omega]
  refine loop_wp (fun m t H' => ∃ j zs', j + m = n ∧ rd t 52 = iv (j : Nat) ∧ St H' k sp q rf a s u fs zs' ∧ zs'.length = zs.length ∧ (∀ i, zs'.getD i 0 = if a + u ≤ i ∧ i < a + u + j then 0 else zs.getD i 0) ∧ Same (· = q) H1 H') n ⟨0, zs, by omega, by simp, T1, rfl, fun i => by rw [if_neg (by omega)], Same.refl _ _⟩ ?_
  rintro m t H2 hk ⟨j, zs', hj, g52, T2, hlen, hz, f2⟩
  have ht : t.length = 107 := hk.1.trans (by simp [len_Bs])
  have hh := hk.all [0, 1, 2, 3, 9, 51] (by decide +kernel)
  simp at hh
  obtain ⟨r0, r1, r2, r3, r9, r51⟩ := hh
  simp only [iv_eq] at g52
  by_cases hm : m = 0
  · subst hm
    obtain rfl : j = n := by omega
    have T3 := T2.same0 (Same.push _ _ (.row true 0 1 [iv ((u : Int) - params), iv ((params : Int) + j), iv back]))
    have gF : (H2.push (.row true 0 1 [iv ((u : Int) - params), iv ((params : Int) + j), iv back])).get H2.n = .row true 0 1 [iv ((u : Int) - params), iv ((params : Int) + j), iv back] := by simp
    have hkn : k < H2.n := T2.cur.lt
    have hqn : q < H2.n := Heap.lt_of_get T2.sto.words (by simp)
    obtain ⟨⟨v2, g2, _⟩, _⟩ := T2.cur
    have f3 := Same.push (fun _ => False) H2 (.row true 0 1 [iv ((u : Int) - params), iv ((params : Int) + j), iv back])
    generalize hH3 : H2.push (.row true 0 1 [iv ((u : Int) - params), iv ((params : Int) + j), iv back]) = H3 at *
    obtain ⟨H4, e4, T4, f4⟩ := T3.put (u - params + (params + j)) back (by omega)
    obtain ⟨H5, e5, T5, f5⟩ := T4.put (u - params + (params + j) + 1) ((u : Int) - params) (by omega)
    have gF4 := f4.at gF (by simp) (by omega)
    have gF5 := f5.at gF4 (by simp) (by omega)
    obtain ⟨⟨v5, g5, k5⟩, ne5⟩ := T5.cur
    have hk5 := Heap.lt_of_get g5 (by simp)
    -- the frame is added
    have f6 := Same.push (fun _ => False) H5 (.row true 0 3 [iv ((u : Int) - params), iv ((params : Int) + j), iv back])
    have g6 := f6.at g5 (by simp) (fun h => h)
    have gF6 := f6.at gF5 (by simp) (fun h => h)
    have k6 := k5.same f6 (fun _ _ h => h)
    have hrl : ∀ i, rf = some i → i < H2.n := fun i hi => (T2.cur.cur.elim fun _ hv => hv.2.lt hi)
    have hnn : H2.n ≤ H5.n := by have := Heap.lt_of_get gF5 (by simp); omega
    obtain ⟨v', r', H7, e7, k7, f7, n7⟩ := gf_append (H := H5.push (.row true 0 3 [iv ((u : Int) - params), iv ((params : Int) + j), iv back])) (X := .slice (some ⟨H5.n, 0, none⟩) 1 1) k6 ((u - params : Nat), (params + j : Nat), back) rfl
      (by simp [cellsOf, cellsF, show ((u - params : Nat) : Int) = (u : Int) - params by omega]) (by omega)
    obtain ⟨b', c', rfl⟩ := k7.slice
    have g7 := f7.at g6 (by simp) (fun h => ne5 h)
    have gF7 := f7.at gF6 (by simp) (fun h => by have := hrl _ h; omega)
    have hk7 := Heap.lt_of_get g7 (by simp)
    have e8 := low_run h.cur (H7.set k (.row true 0 1 [ptr sp, iv a, iv s, iv u, .slice b' (fs.length + 1) c'])) ((u : Int) - params) ((params : Int) + j) back (by omega) (by omega)
    rw [show (u : Int) - params + (params + j) + 2 = u + j + 2 by omega] at e8
    simp only [ptr_eq, iv_eq] at e4 e5 g2 g5 hH3 gF gF4 gF5 g6 gF6 e7 g7 gF7 e8
    rw [show ((u - params + (params + j) : Nat) : Int) = (u : Int) + j by omega] at e4
    rw [show ((u - params + (params + j) + 1 : Nat) : Int) = (u : Int) + j + 1 by omega] at e5
    simp [ht, r0, r1, r2, r3, r9, r51, g52, g2, wrap64 ((u : Int) - params) (by omega) (by omega), hH3, gF, gF4, gF5, e4, e5, show (u : Int) - params + (params + j) = u + j by omega, wrap64 ((u : Int) + j) (by omega) (by omega), wrap64 ((u : Int) + j + 1) (by omega) (by omega)]
    refine region_plan (by exact pl18) ?_
    simp only [List.length_cons] at k7
    simp [ht, r0, g5, gF5, g6, e7, g7, gF7, Heap.get_set_self _ _ hk7, Heap.get_set _ _ _ hk7, show ¬ H2.n = k by omega, e8, Heap.get_push, show ¬ k = H7.n by omega]
    -- what holds behind it
    have fa := Same.set (X := (· = k)) H7 hk7 rfl (.row true 0 1 [ptr sp, iv a, iv s, iv u, .slice b' (fs.length + 1) c'])
    have fb := Same.push (fun i => i = k) (H7.set k (.row true 0 1 [ptr sp, iv a, iv s, iv u, .slice b' (fs.length + 1) c'])) (.row true 0 1 [iv ((u : Int) - params), iv ((params : Int) + j), iv back])
    have hk9 : k < ((H7.set k (.row true 0 1 [ptr sp, iv a, iv s, iv u, .slice b' (fs.length + 1) c'])).push (.row true 0 1 [iv ((u : Int) - params), iv ((params : Int) + j), iv back])).n := by simp; omega
    have fc := Same.set (X := (· = k)) _ hk9 rfl (.row true 0 1 [ptr sp, iv a, iv s, iv ((u : Int) + j + 2), .slice b' (fs.length + 1) c'])
    have fall := (fa.trans fb).trans fc
    have hk6 : k < (H5.push (.row true 0 3 [iv ((u : Int) - params), iv ((params : Int) + j), iv back])).n := Heap.lt_of_get g6 (by simp)
    have hq6 : q < (H5.push (.row true 0 3 [iv ((u : Int) - params), iv ((params : Int) + j), iv back])).n := by simp; omega
    have hs6 : sp < (H5.push (.row true 0 3 [iv ((u : Int) - params), iv ((params : Int) + j), iv back])).n := by have := Heap.lt_of_get T5.sto.store (by simp); simp; omega
    have nk : ∀ p, p < (H5.push (.row true 0 3 [iv ((u : Int) - params), iv ((params : Int) + j), iv back])).n → rf ≠ some p → r' ≠ some p := fun p h1 h2 e => (n7 p e).elim h2 (fun h => by omega)
    refine ⟨r', _, ⟨⟨⟨.slice b' (fs.length + 1) c', ?_, ?_⟩, nk k hk6 ne5⟩, (((T5.sto.same f6 (fun h => h) (fun h => h)).same f7 T5.rsp T5.rq).same fall (fun e => h.ksp e.symm) (fun e => h.kq e.symm)), h.kq, h.ksp, nk q hq6 T5.rq, nk sp hs6 T5.rsp, T5.fit, T5.big, by omega, ?_⟩, ?_, ?_, ?_⟩
    · rw [show ((u + j + 2 : Nat) : Int) = (u : Int) + j + 2 by omega]
      exact Heap.get_set_self _ _ hk9
    · have := k7.same fall (fun i hi e => nk k hk6 ne5 (by rw [hi, e]))
      simp only [Int.natCast_add] at this
      exact this
    · obtain ⟨o1, o2⟩ := h.fok
      refine ⟨by simp only [List.length_cons]; omega, fun f hf => ?_⟩
      rcases List.mem_cons.1 hf with rfl | hf
      · refine ⟨?_, ?_, ?_, ?_⟩ <;> simp only [] <;> omega
      · exact o2 f hf
    · refine ⟨by simpa using hlen, fun i => ?_⟩
      rw [getD_set _ _ _ _ (by simp; omega), getD_set _ _ _ _ (by omega), hz, show ((u - params : Nat) : Int) = (u : Int) - params by omega]
    · exact ((((((((f1.mono fun i h => h.elim).trans (f2.mono fun i h => .inr (.inl h))).trans (f3.mono fun i h => h.elim)).trans (f4.mono fun i h => .inr (.inl h))).trans (f5.mono fun i h => .inr (.inl h))).trans (f6.mono fun i h => h.elim)).trans (f7.mono fun i h => .inr (.inr h))).trans (fall.mono fun i h => .inl h))
    · refine n7.le ?_
      have a1 := f1.n
      have a2 := f2.n
      have a3 := f3.n
      have a4 := f4.n
      have a5 := f5.n
      have a6 := f6.n
      omega
  · have hg := T2.cur
    obtain ⟨H3, e3, T3, f3⟩ := T2.put (u + j) 0 (by omega)
    obtain ⟨⟨v2, g2, _⟩, _⟩ := T2.cur
    simp only [ptr_eq, iv_eq] at e3 g2
    rw [show ((u + j : Nat) : Int) = (u : Int) + j by omega] at e3
    simp [ht, r0, r1, r2, r3, r9, r51, g52, show (j : Int) < n by omega, show j < n by omega, g2, e3, wrap64 ((u : Int) + j) (by omega) (by omega), wrap64 ((j : Int) + 1) (by omega) (by omega)]
    refine ⟨m - 1, by omega, j + 1, by omega, by omega, _, T3, by simpa using hlen, fun i => ?_, f2.trans f3⟩
    change (zs'.set (a + (u + j)) 0).getD i 0 = if a + u ≤ i ∧ i < a + u + (j + 1) then 0 else zs.getD i 0
    rw [getD_set _ _ _ _ (by omega), hz]
    by_cases c1 : i = a + (u + j)
    · rw [if_pos c1, if_pos (by omega)]
    · rw [if_neg c1]
      by_cases c2 : a + u ≤ i ∧ i < a + u + j
      · rw [if_pos c2, if_pos (by omega)]
      · rw [if_neg c2, if_neg (by omega)]
end
end Go.Vm.StackLaw
