/- What is proved: lists of names, one behind the other ('slices.Concat'). -/
import Derived.Test.YtbjcfdopkaekjaaTab7
namespace Go.Vm
set_option linter.unusedSimpArgs false
set_option linter.unusedVariables false
variable {α : Type}
theorem Rep.L_append (ρ : Rep α) {H : Heap} {S : Nat → Prop} : ∀ {l m : List α} {cs ds : List Value}, ρ.L H S l cs → ρ.L H S m ds → ρ.L H S (l ++ m) (cs ++ ds)
  | [], m, cs, ds, h, k => by simp only [Rep.L] at h; subst h; exact k
  | a :: l, m, cs, ds, h, k => by
    obtain ⟨c1, c2, rfl, h1, h2⟩ := h
    exact ⟨c1, c2 ++ ds, by simp, h1, Rep.L_append ρ h2 k⟩
theorem Rep.L_weak (ρ : Rep α) {H : Heap} {S S' : Nat → Prop} (h : ∀ i, S i → S' i) {l : List α} {cs : List Value} (k : ρ.L H S l cs) : ρ.L H S' l cs :=
  ρ.L_move (Same.refl (fun _ => False) H) (fun i hi _ => ⟨h i hi, fun h => h⟩) k
theorem Rep.G_cells (ρ : Rep α) {H : Heap} {S : Nat → Prop} {v : Value} {l : List α} (h : ρ.G H S v l) : ∃ cs, ρ.L H S l cs ∧ cellsOf H ρ.k l.length v = some cs ∧ ∃ b, v = .slice b l.length l.length := by
  rcases h with ⟨rfl, rfl⟩ | ⟨id, tl, cs, rfl, h2, h3, h4, h5⟩
  · exact ⟨[], rfl, by simp, none, rfl⟩
  · have hl := ρ.L_len h5
    refine ⟨cs, ρ.L_weak (fun i hi => hi.1) h5, ?_, _, rfl⟩
    simp [h4, hl]
    rw [← hl, List.take_length]
theorem Rep.G_some (ρ : Rep α) {H : Heap} {S : Nat → Prop} {v : Value} {l : List α} (h : ρ.G H S v l) (hl : 0 < l.length) : ∃ id, v = .slice (some ⟨id, 0, none⟩) l.length l.length ∧ S id ∧ id < H.n := by
  rcases h with ⟨rfl, rfl⟩ | ⟨id, tl, cs, rfl, h2, h3, h4, h5⟩
  · cases hl
  · exact ⟨id, rfl, h3, Heap.lt_of_get h4 (by simp)⟩
/-- An append into room that is there. -/
theorem room_app {P : Program} {t k : Nat} (T : TF P t k) {H : Heap} {r tl N m n : Nat} {cs new : List Value} {v : Value} (hg : H.get r = .row true tl k cs) (hl : cs.length = N * k) (hv : ∃ b, v = .slice b n n) (hc : cellsOf H k n v = some new) (hnew : new.length = n * k) (hm : m + n ≤ N) (hN : N ≤ 100000) :
    ∃ H' cs', exAppend P [t, t] (.slice (some ⟨r, 0, none⟩) m N) v H = some (.slice (some ⟨r, 0, none⟩) (m + n) N, H') ∧ H'.get r = .row true tl k cs' ∧ cs'.length = N * k ∧ cs'.take ((m + n) * k) = cs.take (m * k) ++ new ∧ Same (· = r) H H' := by
  obtain ⟨b, rfl⟩ := hv
  obtain ⟨e, bb, z, h1, h2, h3, h4, h5, h6, h7, h8⟩ := T.ok
  have hb : (m + n + 200) * bb ≤ 140737488355328 := by
    have : (m + n + 200) * bb ≤ (100000 + 200) * 1000 := Nat.mul_le_mul (by omega) h4
    omega
  have hr := Heap.lt_of_get hg (by simp)
  have hmk : (m + n) * k ≤ N * k := Nat.mul_le_mul_right _ hm
  have hmk2 : (m + n) * k = m * k + n * k := Nat.add_mul _ _ _
  by_cases h0 : n = 0
  · subst h0
    have : new = [] := List.eq_nil_of_length_eq_zero (by omega)
    subst this
    refine ⟨H, cs, ?_, hg, hl, by simp, Same.refl _ _⟩
    simp only [Nat.add_zero] at hb
    simp only [exAppend, h1, h8, exAppendRow, h2, h3, h5, lenA, hc]
    simp [h7, h6]
    omega
  · refine ⟨H.set r (.row true tl k (writeAt cs (m * k) new)), writeAt cs (m * k) new, ?_, Heap.get_set_self _ _ hr, ?_, ?_, Same.set (X := (· = r)) H hr rfl _⟩
    · simp only [exAppend, h1, h8, exAppendRow, h2, h3, h5, lenA, hc, hg]
      simp [h7, h6, h0, hm, hb, hl, hmk]
      omega
    · unfold writeAt
      simp only [List.length_append, List.length_take, List.length_drop, hnew, hl]
      omega
    · unfold writeAt
      rw [← List.append_assoc, List.take_append_of_le_length (by simp only [List.length_append, List.length_take, hnew, hl]; omega), List.take_of_length_le (by simp only [List.length_append, List.length_take, hnew, hl]; omega)]
/-- One more, at a place that was kept for it. -/
theorem Rep.G_appAt (ρ : Rep α) {P : Program} {t : TypeId} (T : TF P t ρ.k) {H : Heap} {S : Nat → Prop} {v : Value} {l : List α} (h : ρ.G H S v l) {r xid xt xe xc : Nat} {xo : Bool} (hr : r < H.n) (hS : ¬ S r) (hl : l.length ≤ 100000) {a : α} {c : List Value} (hx : H.get xid = .row xo xt xe c) (ha : ρ.R H (fun i => S i ∧ ¬ vid v i) a c) :
    ∃ H', exAppendAt P [t, t] v (.slice (some ⟨xid, 0, none⟩) 1 xc) r H = some (.slice (some ⟨r, 0, none⟩) (l.length + 1) (l.length + 1), H') ∧ ρ.G H' (fun i => S i ∨ i = r) (.slice (some ⟨r, 0, none⟩) (l.length + 1) (l.length + 1)) (l ++ [a]) ∧ Same (fun i => vid v i ∨ i = r) H H' ∧ H'.n = H.n := by
  have hc := ρ.len ha
  obtain ⟨e, b, z, h1, h2, h3, h4, h5, h6, h7, h8⟩ := T.ok
  have hb : (l.length + 1 + 200) * b ≤ 140737488355328 := by
    have : (l.length + 1 + 200) * b ≤ (100000 + 1 + 200) * 1000 := Nat.mul_le_mul (by omega) h4
    omega
  have hc0 : cellsOf H ρ.k 1 (.slice (some ⟨xid, 0, none⟩) 1 xc) = some c := by
    simp [hx, hc]
    exact List.take_of_length_le (by omega)
  rcases h with ⟨rfl, rfl⟩ | ⟨id, tl, cs, rfl, h2', h3', h4', h5'⟩
  · refine ⟨H.pushAt r (.row true 1 ρ.k c), ?_, ?_, ?_, ?_⟩
    · simp only [exAppendAt, h1, h8, exAppendRow, h2, h3, h5, lenA, hc0]
      simp at hb
      simp [h7, h6, hb]
    · rw [Heap.pushAt_lt hr]
      refine .inr ⟨r, 1, c, by simp, by omega, .inr rfl, Heap.get_set_self _ _ hr, c, [], by simp, ?_, rfl⟩
      exact ρ.move (Same.set (X := (· = r)) H hr rfl _) (fun i hi _ => ⟨⟨.inl hi.1, fun e => hS (e ▸ hi.1)⟩, fun e => hS (e ▸ hi.1)⟩) _ _ ha
    · rw [Heap.pushAt_lt hr]; exact Same.set H hr (.inr rfl) _
    · rw [Heap.pushAt_lt hr]; rfl
  · have hid := Heap.lt_of_get h4' (by simp)
    have hir : id ≠ r := fun e => hS (e ▸ h3')
    have hcl := ρ.L_len h5'
    have hne : ¬ l.length + 1 ≤ l.length := by omega
    have mvL : ∀ {H' : Heap}, Same (fun i => i = id ∨ i = r) H H' → ρ.L H' (fun i => (S i ∨ i = r) ∧ i ≠ r) l cs := fun k => ρ.L_move k (fun i hi _ => ⟨⟨.inl hi.1, fun e => hS (e ▸ hi.1)⟩, fun e => e.elim hi.2 (fun e => hS (e ▸ hi.1))⟩) h5'
    have mvR : ∀ {H' : Heap}, Same (fun i => i = id ∨ i = r) H H' → ρ.R H' (fun i => (S i ∨ i = r) ∧ i ≠ r) a c := fun k => ρ.move k (fun i hi _ => ⟨⟨.inl hi.1, fun e => hS (e ▸ hi.1)⟩, fun e => e.elim (fun e => hi.2 e.symm) (fun e => hS (e ▸ hi.1))⟩) _ _ ha
    rcases (show tl = 0 ∨ tl = 1 by omega) with rfl | rfl
    · have k : Same (fun i => i = id ∨ i = r) H (H.set r (.row true 1 ρ.k (cs ++ c))) := Same.set H hr (.inr rfl) _
      refine ⟨H.set r (.row true 1 ρ.k (cs ++ c)), ?_, ?_, k.mono fun i hi => hi.elim (fun e => .inl e.symm) .inr, rfl⟩
      · simp only [exAppendAt, h1, h8, exAppendRow, h2, h3, h5, lenA, hc0, h4']
        simp [h7, h6, hb, show l.length + 1 ≤ 140737488355328 by omega, hne, hcl, Heap.pushAt_lt hr]
        rw [← hcl, List.take_length]
      · exact .inr ⟨r, 1, cs ++ c, by simp, by omega, .inr rfl, Heap.get_set_self _ _ hr, ρ.L_snoc (mvR k) (mvL k)⟩
    · have k : Same (fun i => i = id ∨ i = r) H ((H.set id .dead).set r (.row true 1 ρ.k (cs ++ c))) := (Same.set H hid (.inl rfl) _).trans (Same.set (H.set id .dead) hr (.inr rfl) _)
      refine ⟨(H.set id .dead).set r (.row true 1 ρ.k (cs ++ c)), ?_, ?_, k.mono fun i hi => hi.elim (fun e => .inl e.symm) .inr, rfl⟩
      · simp only [exAppendAt, h1, h8, exAppendRow, h2, h3, h5, lenA, hc0, h4']
        simp [h7, h6, hb, show l.length + 1 ≤ 140737488355328 by omega, hne, hcl, Heap.pushAt_lt (H := H.set id .dead) (r := r) hr]
        rw [← hcl, List.take_length]
      · exact .inr ⟨r, 1, cs ++ c, by simp, by omega, .inr rfl, Heap.get_set_self (H.set id .dead) _ hr, ρ.L_snoc (mvR k) (mvL k)⟩
end Go.Vm
namespace Go.Vm.Scope
open Go Go.Proofs Go.Vm.Parse
set_option maxRecDepth 100000
set_option maxHeartbeats 1000000
set_option linter.unusedSimpArgs false
set_option linter.unusedVariables false
attribute [local simp] repCells_succ writeAt rd_Fr toList_beq gpe gpn spe gse gsn ne_r0 ne_l0 le_s0 ne_r1 ne_l1 lt_s1 le_s1 ne_r2 ne_l2 lt_s2 le_s2 ne_r3 ne_l3 lt_s3 le_s3 ne_r4 ne_l4 lt_s4 le_s4 ne_r5 ne_l5 lt_s5 le_s5 ne_r6 ne_l6 lt_s6 le_s6 ne_r7 ne_l7 lt_s7 le_s7
theorem tf_idn8 : TF Try.prog 52 2 := ⟨_, _, _, by simp, by simp, by simp; rfl, by omega, by simp; rfl, rfl, by omega, rfl⟩
theorem idn_L {H H' : Heap} {S S' : Nat → Prop} : ∀ {l : List Idn} {cs : List Value}, repIdn.L H S l cs → repIdn.L H' S' l cs
  | [], cs, h => h
  | a :: l, cs, h => by
    obtain ⟨c1, c2, e, h1, h2⟩ := h
    exact ⟨c1, c2, e, h1, idn_L h2⟩
theorem rep_len (c : List Value) : ∀ n, (repCells n c).length = n * c.length
  | 0 => by simp [repCells]
  | n + 1 => by simp [repCells, rep_len c n, Nat.add_mul] <;> omega
/-- Cells that a slice is of are there behind changes of other things. -/
theorem cellsOf_same {H H' : Heap} {X : Nat → Prop} (k : Same X H H') {n m : Nat} {v : Value} {cs : List Value} (h : cellsOf H n m v = some cs) (hx : ∀ i, vid v i → i < H.n → ¬ X i) : cellsOf H' n m v = some cs := by
  cases v with
  | slice b l c =>
    cases b with
    | none => exact h
    | some q =>
      obtain ⟨id, off, p⟩ := q
      cases p with
      | some _ => exact h
      | none =>
        simp only [cellsOf] at h ⊢
        cases hg : H.get id with
        | row own tl es ds =>
          have hlt := Heap.lt_of_get hg (by simp)
          rw [k.get id hlt (hx id rfl hlt), hg]
          rw [hg] at h
          exact h
        | _ => rw [hg] at h; cases h
  | string s => exact h
  | _ => cases h
section
variable {E : Hooks} (hE : Plain E)
include hE
theorem c_Concat (args : List Value) (H : Heap) : (run Try.prog E).call 78 args H = callB Try.prog E Try.f78 args H := call_B Try.func78 rfl (by decide +kernel) (hE.no _ rfl rfl) args H
theorem c_GrowI (args : List Value) (H : Heap) : (run Try.prog E).call 95 args H = callB Try.prog E Try.f95 args H := call_B Try.func95 rfl (by decide +kernel) (hE.no _ rfl rfl) args H
theorem concat_run {H : Heap} {a : Nat} {S : Nat → Prop} {v1 v2 : Value} {xs ys : List Idn} (h : H.get a = .row true 0 1 [v1, v2]) (h1 : repIdn.G H S v1 xs) (h2 : repIdn.G H S v2 ys) (hl : xs.length + ys.length ≤ 100000) :
    ∃ v H', (run Try.prog E).call 78 [.slice (some ⟨a, 0, none⟩) 2 2] H = some (.val v, H') ∧ repIdn.G H' (fun i => H.n ≤ i) v (xs ++ ys) ∧ Same (fun _ => False) H H' := by
  obtain ⟨cs1, c1, k1, b1, rfl⟩ := repIdn.G_cells h1
  obtain ⟨cs2, c2, k2, b2, rfl⟩ := repIdn.G_cells h2
  have n1 := repIdn.L_len c1
  have n2 := repIdn.L_len c2
  by_cases h0 : xs.length + ys.length = 0
  · obtain ⟨rfl, rfl⟩ : xs = [] ∧ ys = [] := ⟨List.eq_nil_of_length_eq_zero (by omega), List.eq_nil_of_length_eq_zero (by omega)⟩
    have e1 : ∀ b, cellsOf H repIdn.k 0 (.slice b 0 0) = some [] → exAppend Try.prog [52, 52] (.slice none 0 0) (.slice b 0 0) H = some (.slice none 0 0, H) := by
      intro b hs
      obtain ⟨e, bb, z, h1, h2, h3, h4, h5, h6, h7, h8⟩ := tf_idn8.ok
      simp only [repIdn] at hs
      simp only [exAppend, h1, h8, exAppendRow, h2, h3, h5, lenA, hs]
      simp [h6, h7]
      omega
    have z1 : cs1 = [] := List.eq_nil_of_length_eq_zero (by simpa using n1)
    have z2 : cs2 = [] := List.eq_nil_of_length_eq_zero (by simpa using n2)
    subst z1
    subst z2
    have e2 := e1 _ k1
    have e3 := e1 _ k2
    have key : Gives ((run Try.prog E).call 78 [.slice (some ⟨a, 0, none⟩) 2 2] H) fun o H' => o = .val (.slice none 0 0) ∧ H' = H := by
      rw [c_Concat hE, callB, bodyOf]
      simp at h
      simp [Try.f78, code_loop, h, e2, e3, c_GrowI hE, callB, bodyOf, Try.f95, exCap, exLen, Try.underlying52, wrap64 0 (by omega) (by omega), wrap64 1 (by omega) (by omega), wrap64 2 (by omega) (by omega)]
    obtain ⟨o, H', e, rfl, rfl⟩ := key
    exact ⟨_, _, e, .inl ⟨rfl, rfl⟩, Same.refl _ _⟩
  · have f0 := Same.push (fun _ => False) H (.row true 1 2 (repCells (xs.length + ys.length) [.int .i64 0, .string ByteArray.empty]))
    have hz : (repCells (xs.length + ys.length) [.int .i64 0, .string ByteArray.empty]).length = (xs.length + ys.length) * 2 := by rw [rep_len]; rfl
    have q1 : cellsOf (H.push (.row true 1 2 (repCells (xs.length + ys.length) [.int .i64 0, .string ByteArray.empty]))) 2 xs.length (.slice b1 xs.length xs.length) = some cs1 := cellsOf_same f0 k1 (fun i _ _ h => h)
    obtain ⟨H1, ds1, e1, g1, m1, t1, f1⟩ := room_app tf_idn8 (r := H.n) (m := 0) (N := xs.length + ys.length) (Heap.get_push_self H _) hz ⟨_, rfl⟩ q1 n1 (by omega) hl
    have q2 : cellsOf H1 2 ys.length (.slice b2 ys.length ys.length) = some cs2 := cellsOf_same f1 (cellsOf_same f0 k2 (fun i _ _ h => h)) (fun i hi _ e => by have := (repIdn.G_lt h2 hi).1; omega)
    obtain ⟨H2, ds2, e2, g2, m2, t2, f2⟩ := room_app tf_idn8 (r := H.n) (m := xs.length) (N := xs.length + ys.length) g1 m1 ⟨_, rfl⟩ q2 n2 (Nat.le_refl _) hl
    have ha : a < H.n := Heap.lt_of_get h (by simp)
    have ha1 : H1.get a = .row true 0 1 [.slice b1 xs.length xs.length, .slice b2 ys.length ys.length] := f1.at (f0.at h (by simp) (fun h => h)) (by simp) (by omega)
    have key : Gives ((run Try.prog E).call 78 [.slice (some ⟨a, 0, none⟩) 2 2] H) fun o H' => o = .val (.slice (some ⟨H.n, 0, none⟩) (xs.length + ys.length) (xs.length + ys.length)) ∧ H' = H2 := by
      rw [c_Concat hE, callB, bodyOf]
      simp only [Nat.zero_add] at e1
      have e0 : exAppend Try.prog [52, 3] (.slice none 0 0) (.int .i64 ((xs.length : Int) + ys.length)) H = some (.slice (some ⟨H.n, 0, none⟩) (xs.length + ys.length) (xs.length + ys.length), H.push (.row true 1 2 (repCells (xs.length + ys.length) [.int .i64 0, .string ByteArray.empty]))) := by
        simp [exAppend, exAppendMake, Try.underlying3, show 0 ≤ (xs.length : Int) + ys.length by omega, show (xs.length : Int) + ys.length ≤ 1000000 by omega, show ¬ ((xs.length : Int) + ys.length = 0) by omega, show ((xs.length : Int) + ys.length).toNat = xs.length + ys.length by omega]
      have e3 : exSlice Try.prog 52 (.slice none 0 0) none (some (.int .i64 0)) none H = some (.slice none 0 0, H) := by simp [exSlice, Try.underlying52]
      simp [Try.f78, code_loop, h, e0, e1, e2, e3, ha1, Nat.ne_of_lt ha, Heap.get_push_lt _ _ ha, c_GrowI hE, callB, bodyOf, Try.f95, exCap, exLen, Try.underlying52, wrap64 0 (by omega) (by omega), wrap64 1 (by omega) (by omega), wrap64 2 (by omega) (by omega), wrap64 (xs.length : Int) (by omega) (by omega), wrap64 ((xs.length : Int) + ys.length) (by omega) (by omega),
        show ¬ (xs.length : Int) < 0 by omega, show ¬ (xs.length : Int) + ys.length < 0 by omega, show 0 < (xs.length : Int) + ys.length by omega, show 0 ≤ (xs.length : Int) + ys.length by omega, cutA]
    obtain ⟨o, H', e, rfl, rfl⟩ := key
    have k02 : Same (fun _ => False) H H' := (f0.then f1 (fun i hi => .inr (by omega))).then f2 (fun i hi => .inr (by omega))
    refine ⟨_, _, e, .inr ⟨H.n, 1, ds2, by simp, by omega, Nat.le_refl _, g2, ?_⟩, k02⟩
    have hd : ds2 = cs1 ++ cs2 := by
      simp only [Nat.zero_add, Nat.zero_mul, List.take_zero, List.nil_append] at t1
      rw [List.take_of_length_le (by omega)] at t2
      rw [t2, t1]
    rw [hd]
    exact repIdn.L_append (idn_L c1) (idn_L c2)
end
end Go.Vm.Scope
