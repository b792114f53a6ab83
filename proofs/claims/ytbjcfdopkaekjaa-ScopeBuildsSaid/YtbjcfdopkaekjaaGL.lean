/- What is proved: what the machine's operations do with a list of whole numbers that grows; no theorem of the program. -/
import Derived.Test.YtbjcfdopkaekjaaVmN
namespace Go.Vm
open Go.RowKit
set_option linter.unusedSimpArgs false
set_option linter.unusedVariables false
variable {P : Program}

def iv (z : Int) : Value := .int .i64 z
@[simp] theorem iv_eq (z : Int) : iv z = .int .i64 z := id rfl
/-- A slice type of 64-bit numbers. -/
structure IntT (P : Program) (t e : TypeId) : Prop where
  elem : elemT P t = some e
  size : sizeT P e = some 1
  bytes : bytesT P e = some 8
  zero : zeroT P e = some (.int .i64 0)
  under : P.underlying t = some (.slice e)

theorem take_iv (xs : List Int) (n : Nat) (h : n = xs.length) : ((xs.map iv).drop 0).take n = xs.map iv := by subst h; rw [List.drop_zero]; exact List.take_of_length_le (by simp)
/-- A list that grows: its slice, its numbers, its row, if it has one. -/
def GL (H : Heap) (v : Value) (xs : List Int) (r : Option Nat) : Prop :=
  (v = .slice none 0 0 ∧ xs = [] ∧ r = none) ∨ ∃ id off cs tl, r = some id ∧ v = .slice (some ⟨id, off, none⟩) xs.length xs.length ∧ H.get id = .row true tl 1 cs ∧ off + xs.length ≤ cs.length ∧ (cs.drop off).take xs.length = xs.map iv ∧ (tl = 0 ∨ tl = 1 ∧ off + xs.length = cs.length)
/-- A row is as it was, or new. -/
def Newer (H : Heap) (r r' : Option Nat) : Prop := ∀ i, r' = some i → r = some i ∨ H.n ≤ i
theorem Newer.refl (H : Heap) (r : Option Nat) : Newer H r r := fun _ h => .inl h
theorem Newer.new {H : Heap} {r : Option Nat} {i : Nat} (h : H.n ≤ i) : Newer H r (some i) := fun j hj => .inr (by simp only [Option.some.injEq] at hj; omega)

theorem Newer.le {A B : Heap} {r r' : Option Nat} (h : Newer B r r') (k : A.n ≤ B.n) : Newer A r r' := fun i hi => (h i hi).imp id (Nat.le_trans k)
theorem Newer.ne {A : Heap} {r r' : Option Nat} (h : Newer A r r') {p : Nat} (hp : p < A.n) (hr : r ≠ some p) : ∀ i, r' = some i → ¬ i = p := fun i hi e => (h i hi).elim (fun k => hr (by rw [k, e])) (fun k => by omega)
theorem Newer.trans {A B : Heap} {r r' r'' : Option Nat} (h : Newer A r r') (k : Newer B r' r'') (hn : A.n ≤ B.n) : Newer A r r'' := fun i hi => (k i hi).elim (fun e => h i e) (fun e => .inr (Nat.le_trans hn e))
theorem GL.lt {H : Heap} {v : Value} {xs : List Int} {r : Option Nat} (h : GL H v xs r) {i : Nat} (hi : r = some i) : i < H.n := by
  rcases h with ⟨_, _, h0⟩ | ⟨id, off, cs, tl, h0, _, h2, _⟩
  · rw [h0] at hi; cases hi
  · rw [h0] at hi; cases hi; exact Heap.lt_of_get h2 (by simp)
theorem GL.same {X : Nat → Prop} {H H' : Heap} {v : Value} {xs : List Int} {r : Option Nat} (h : GL H v xs r) (k : Same X H H') (hx : ∀ i, r = some i → ¬ X i) : GL H' v xs r := by
  refine h.imp id ?_
  rintro ⟨id, off, cs, tl, h0, h1, h2, h3⟩
  exact ⟨id, off, cs, tl, h0, h1, k.at h2 (by simp) (hx id h0), h3⟩
theorem GL.nil (H : Heap) : GL H (.slice none 0 0) [] none := .inl ⟨rfl, rfl, rfl⟩
/-- A slice of numbers that is read. -/
def SL (H : Heap) (v : Value) (xs : List Int) : Prop :=
  ∃ base cap, v = .slice base xs.length cap ∧ ((base = none ∧ xs = []) ∨ ∃ r off own tl es cs, base = some ⟨r, off, none⟩ ∧ H.get r = .row own tl es cs ∧ off + xs.length ≤ cs.length ∧ (cs.drop off).take xs.length = xs.map iv)
theorem GL.sl {H : Heap} {v : Value} {xs : List Int} {r : Option Nat} (h : GL H v xs r) : SL H v xs := by
  rcases h with ⟨rfl, rfl, _⟩ | ⟨r, off, cs, tl, _, rfl, h2, h3, h4, h5⟩
  · exact ⟨none, 0, rfl, .inl ⟨rfl, rfl⟩⟩
  · exact ⟨_, _, rfl, .inr ⟨r, off, true, tl, 1, cs, rfl, h2, h3, h4⟩⟩
theorem SL.same {H H' : Heap} {v : Value} {xs : List Int} (h : SL H v xs) (k : ∀ i o, H.get i = o → o ≠ .dead → H'.get i = o) : SL H' v xs := by
  obtain ⟨base, cap, h1, h2⟩ := h
  refine ⟨base, cap, h1, h2.imp id ?_⟩
  rintro ⟨r, off, own, tl, es, cs, h3, h4, h5⟩
  exact ⟨r, off, own, tl, es, cs, h3, k _ _ h4 (by simp), h5⟩
theorem Same.all {H H' : Heap} (k : Same (fun _ => False) H H') : ∀ i o, H.get i = o → o ≠ .dead → H'.get i = o := fun i o h hd => k.at h hd (fun h => h)
theorem SL.slice {H : Heap} {v : Value} {xs : List Int} (h : SL H v xs) : ∃ b n c, v = .slice b n c := by
  obtain ⟨base, cap, rfl, _⟩ := h; exact ⟨_, _, _, rfl⟩
theorem SL.len {H : Heap} {v : Value} {xs : List Int} (h : SL H v xs) : lenA v = some xs.length := by
  obtain ⟨base, cap, rfl, _⟩ := h; rfl
theorem SL.cells {H : Heap} {v : Value} {xs : List Int} (h : SL H v xs) : cellsOf H 1 xs.length v = some (xs.map iv) := by
  obtain ⟨base, cap, rfl, ⟨rfl, rfl⟩ | ⟨r, off, own, tl, es, cs, rfl, h2, h3, h4⟩⟩ := h
  · rfl
  · simp [h2, h3, h4]
theorem SL.cell {H : Heap} {xs : List Int} {r off n cap : Nat} (h : SL H (.slice (some ⟨r, off, none⟩) n cap) xs) : n = xs.length ∧ ∃ cs, rowCells (H.get r) = some cs ∧ off + xs.length ≤ cs.length ∧ ∀ i, i < xs.length → cs[off + i]? = some (iv (xs.getD i 0)) := by
  obtain ⟨base, cap', h0, h⟩ := h
  simp only [Value.slice.injEq] at h0
  obtain ⟨rfl, rfl, rfl⟩ := h0
  rcases h with ⟨h, _⟩ | ⟨r', off', own, tl, es, cs, h1, h2, h3, h4⟩
  · cases h
  · simp only [Option.some.injEq, Addr.mk.injEq, and_true] at h1
    obtain ⟨rfl, rfl⟩ := h1
    refine ⟨rfl, cs, by rw [h2]; rfl, h3, fun i hi => ?_⟩
    have := congrArg (·[i]?) h4
    simp only [List.getElem?_take, List.getElem?_drop, if_pos hi, List.getElem?_map] at this
    rw [this, List.getElem?_eq_getElem hi, List.getD_eq_getElem?_getD, List.getElem?_eq_getElem hi]
    rfl

theorem GL.cons {H : Heap} {v : Value} {x : Int} {xs : List Int} {r : Option Nat} (h : GL H v (x :: xs) r) : ∃ id off cs tl, r = some id ∧ v = .slice (some ⟨id, off, none⟩) (xs.length + 1) (xs.length + 1) ∧ H.get id = .row true tl 1 cs ∧ cs[off]? = some (iv x) := by
  rcases h with ⟨_, h0, _⟩ | ⟨id, off, cs, tl, h0, h1, h2, h3, h4, _⟩
  · cases h0
  · refine ⟨id, off, cs, tl, h0, h1, h2, ?_⟩
    have := congrArg (·[0]?) h4
    simpa using this
section
variable {t e : TypeId} (T : IntT P t e)
set_option linter.unusedSectionVars false
include T
/-- Appended to the empty slice that was made for it: a copy. -/
theorem dup_run {H : Heap} {x : Value} {xs : List Int} (h : SL H x xs) (hl : xs.length ≤ 1000000) :
    ∃ v H', exAppend P [t, t] (.slice (some ⟨H.n, 0, none⟩) 0 0) x (H.push (.row true 0 1 [])) = some (v, H') ∧ (∃ r, H.n ≤ r ∧ GL H' v xs (some r)) ∧ Same (fun _ => False) H H' := by
  have h1 : SL (H.push (.row true 0 1 [])) x xs := h.same (Same.push _ _ _).all
  by_cases hx : xs = []
  · subst hx
    refine ⟨.slice (some ⟨H.n, 0, none⟩) 0 0, H.push (.row true 0 1 []), ?_, ⟨H.n, Nat.le_refl _, .inr ⟨H.n, 0, [], 0, rfl, rfl, by simp, by simp, by simp, .inl rfl⟩⟩, Same.push _ _ _⟩
    have := h1.cells
    simp only [List.length_nil] at this
    simp [exAppend, exAppendRow, T.elem, T.size, T.bytes, T.zero, T.under, h1.len, this]
  · have hn : xs.length ≠ 0 := by simpa using hx
    refine ⟨.slice (some ⟨H.n + 1, 0, none⟩) xs.length xs.length, (H.push (.row true 0 1 [])).push (.row true 1 1 (xs.map iv)), ?_, ⟨H.n + 1, by omega, .inr ⟨H.n + 1, 0, xs.map iv, 1, rfl, rfl, by simp [Heap.get_push], by simp, take_iv _ _ rfl, .inr ⟨rfl, by simp⟩⟩⟩, (Same.push _ _ _).trans (Same.push _ _ _)⟩
    have := h1.cells
    simp [exAppend, exAppendRow, T.elem, T.size, T.bytes, T.zero, T.under, h1.len, this, hn, hx, show (xs.length + 200) * 8 ≤ 140737488355328 by omega, show xs.length ≤ 140737488355328 by omega, Heap.get_push]
/-- Appended to a list that grows: some others. -/
theorem grow_run {H : Heap} {v x : Value} {xs ys : List Int} {r : Option Nat} (h : GL H v xs r) (hx : SL H x ys) (hl : xs.length + ys.length ≤ 1000000) :
    ∃ v' r' H', exAppend P [t, t] v x H = some (v', H') ∧ GL H' v' (xs ++ ys) r' ∧ Same (fun i => r = some i) H H' ∧ Newer H r r' := by
  have hc := hx.cells
  by_cases hy : ys = []
  · subst hy
    refine ⟨v, r, H, ?_, by simpa using h, Same.refl _ _, Newer.refl _ _⟩
    simp only [List.length_nil] at hc
    rcases h with ⟨rfl, rfl, rfl⟩ | ⟨id, off, cs, tl, rfl, rfl, h2, h3, h4, h5⟩
    · simp [exAppend, exAppendRow, T.elem, T.size, T.bytes, T.zero, T.under, hx.len, hc]
    · simp only [List.length_nil, Nat.add_zero] at hl
      simp [exAppend, exAppendRow, T.elem, T.size, T.bytes, T.zero, T.under, hx.len, hc, show (xs.length + 200) * 8 ≤ 140737488355328 by omega, show xs.length ≤ 140737488355328 by omega]
  · have hn : ys.length ≠ 0 := by simpa using hy
    rcases h with ⟨rfl, rfl, rfl⟩ | ⟨r, off, cs, tl, rfl, rfl, h2, h3, h4, h5⟩
    · refine ⟨.slice (some ⟨H.n, 0, none⟩) ys.length ys.length, some H.n, H.push (.row true 1 1 (ys.map iv)), ?_, .inr ⟨H.n, 0, ys.map iv, 1, rfl, by simp, by simp, by simp, take_iv _ _ (by simp), .inr ⟨rfl, by simp⟩⟩, Same.push _ _ _, Newer.new (Nat.le_refl _)⟩
      simp only [List.length_nil, Nat.zero_add] at hl
      simp [exAppend, exAppendRow, T.elem, T.size, T.bytes, T.zero, T.under, hx.len, hc, hn, hy, show (ys.length + 200) * 8 ≤ 140737488355328 by omega, show ys.length ≤ 140737488355328 by omega]
    · have hcs := h3
      have htk := h4
      rcases h5 with rfl | ⟨rfl, h5⟩
      · refine ⟨.slice (some ⟨H.n, 0, none⟩) (xs.length + ys.length) (xs.length + ys.length), some H.n, H.push (.row true 1 1 (xs.map iv ++ ys.map iv)), ?_, .inr ⟨H.n, 0, xs.map iv ++ ys.map iv, 1, rfl, by simp, by simp, by simp, by rw [← List.map_append]; exact take_iv _ _ (by simp), .inr ⟨rfl, by simp⟩⟩, Same.push _ _ _, Newer.new (Nat.le_refl _)⟩
        simp [exAppend, exAppendRow, T.elem, T.size, T.bytes, T.zero, T.under, hx.len, hc, hn, hy, show (xs.length + ys.length + 200) * 8 ≤ 140737488355328 by omega, show xs.length + ys.length ≤ 140737488355328 by omega, h2, show ¬ xs.length + ys.length ≤ xs.length by omega, hcs, htk]
      · refine ⟨.slice (some ⟨H.n, 0, none⟩) (xs.length + ys.length) (xs.length + ys.length), some H.n, (H.set r .dead).push (.row true 1 1 (xs.map iv ++ ys.map iv)), ?_, .inr ⟨H.n, 0, xs.map iv ++ ys.map iv, 1, rfl, by simp, by simp [Heap.get_push], by simp, by rw [← List.map_append]; exact take_iv _ _ (by simp), .inr ⟨rfl, by simp⟩⟩, (Same.set (X := (fun i => some r = some i)) H (Heap.lt_of_get h2 (by simp)) rfl _).trans (Same.push _ _ _), Newer.new (Nat.le_refl _)⟩
        simp [exAppend, exAppendRow, T.elem, T.size, T.bytes, T.zero, T.under, hx.len, hc, hn, hy, show (xs.length + ys.length + 200) * 8 ≤ 140737488355328 by omega, show xs.length + ys.length ≤ 140737488355328 by omega, h2, show ¬ xs.length + ys.length ≤ xs.length by omega, hcs, htk]
/-- All but the first one. -/
theorem tail_run {H : Heap} {v : Value} {x : Int} {xs : List Int} {r : Option Nat} (h : GL H v (x :: xs) r) :
    ∃ v' r' H', exSlice P t v (some (.int .i64 1)) none none H = some (v', H') ∧ GL H' v' xs r' ∧ Same (fun i => r = some i) H H' ∧ Newer H r r' ∧ (∀ id, r = some id → rowCells (H'.get id) = rowCells (H.get id)) := by
  rcases h with ⟨_, h0, _⟩ | ⟨r, off, cs, tl, rfl, rfl, h2, h3, h4, h5⟩
  · cases h0
  simp only [List.length_cons] at h3 h4 h5
  have hx0 := congrArg (List.drop 1) h4
  rw [List.drop_take, List.drop_drop] at hx0
  have hd : (cs.drop (off + 1)).take xs.length = xs.map iv := by simpa using hx0
  by_cases hx : xs = []
  · subst hx
    rcases h5 with rfl | ⟨rfl, h5⟩
    · refine ⟨.slice (some ⟨r, off, none⟩) 0 0, some r, H, ?_, .inr ⟨r, off, cs, 0, rfl, rfl, h2, by simp at h3 ⊢; omega, rfl, .inl rfl⟩, Same.refl _ _, Newer.refl _ _, fun _ _ => rfl⟩
      simp [T.elem, T.size, cutA, h2]
    · refine ⟨.slice (some ⟨H.n, 0, none⟩) 0 0, some H.n, (H.set r (.row true 2 1 cs)).push (.row true 1 1 []), ?_, .inr ⟨H.n, 0, [], 1, rfl, rfl, by simp [Heap.get_push], by simp, rfl, .inr ⟨rfl, rfl⟩⟩, (Same.set (X := fun i => some r = some i) H (Heap.lt_of_get h2 (by simp)) rfl _).trans (Same.push _ _ _), Newer.new (Nat.le_refl _), fun id hid => by
        cases hid
        have hr := Heap.lt_of_get h2 (by simp)
        have e : ((H.set r (.row true 2 1 cs)).push (.row true 1 1 [])).get r = .row true 2 1 cs := by rw [Heap.get_push, if_neg (by simp; omega), Heap.get_set_self _ _ hr]
        rw [e, h2]; rfl⟩
      simp only [List.length_nil, Nat.zero_add] at h5
      simp [T.elem, T.size, cutA, h2, h5]
  · refine ⟨.slice (some ⟨r, off + 1, none⟩) xs.length xs.length, some r, H, ?_, .inr ⟨r, off + 1, cs, tl, rfl, rfl, h2, by omega, hd, h5.imp id (fun h => ⟨h.1, by omega⟩)⟩, Same.refl _ _, Newer.refl _ _, fun _ _ => rfl⟩
    have hn : xs.length ≠ 0 := by simpa using hx
    have htl : tl = 0 ∨ tl = 1 := h5.imp id (·.1)
    rcases htl with rfl | rfl
    · simp [T.elem, T.size, cutA, h2, hx, show ((xs.length : Int) + 1).toNat - 1 = xs.length by omega, show (1 : Int) ≤ xs.length + 1 by omega]; omega
    · simp [T.elem, T.size, cutA, h2, hx, show ((xs.length : Int) + 1).toNat - 1 = xs.length by omega, show (1 : Int) ≤ xs.length + 1 by omega]; omega
/-- Appended where there is room. -/
theorem room_run {H : Heap} {x : Value} {ys : List Int} {r k n tl : Nat} {cs : List Value} (h : H.get r = .row true tl 1 cs) (hn : cs.length = n) (hx : SL H x ys) (hk : k + ys.length ≤ n) (hl : n ≤ 1000000) :
    ∃ H1 cs', exAppend P [t, t] (.slice (some ⟨r, 0, none⟩) k n) x H = some (.slice (some ⟨r, 0, none⟩) (k + ys.length) n, H1) ∧ H1.get r = .row true tl 1 cs' ∧ cs'.length = n ∧ cs'.take (k + ys.length) = cs.take k ++ ys.map iv ∧ Same (· = r) H H1 := by
  have hc := hx.cells
  have hr := Heap.lt_of_get h (by simp)
  by_cases hy : ys = []
  · subst hy
    refine ⟨H, cs, ?_, h, hn, by simp, Same.refl _ _⟩
    simp only [List.length_nil] at hc
    simp [exAppend, exAppendRow, T.elem, T.size, T.bytes, T.zero, T.under, hx.len, hc, show (k + 200) * 8 ≤ 140737488355328 by omega, show k ≤ 140737488355328 by omega, show k ≤ n by simp at hk; omega]
  · have hn0 : ys.length ≠ 0 := by simpa using hy
    refine ⟨H.set r (.row true tl 1 (writeAt cs k (ys.map iv))), writeAt cs k (ys.map iv), ?_, Heap.get_set_self _ _ hr, by rw [writeAt_len _ _ _ (by simp; omega)]; exact hn, ?_, Same.set (X := (· = r)) H hr rfl _⟩
    · simp [exAppend, exAppendRow, T.elem, T.size, T.bytes, T.zero, T.under, hx.len, hc, hy, h, show (k + ys.length + 200) * 8 ≤ 140737488355328 by omega, show k + ys.length ≤ 140737488355328 by omega, show k ≤ n by omega, hk, hn]
    · unfold writeAt
      rw [← List.append_assoc, List.take_append_of_le_length (by simp; omega), List.take_of_length_le (by simp; omega)]
end
end Go.Vm
