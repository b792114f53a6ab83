/- What is proved: copies of a table's lists. -/
import Derived.Test.YtbjcfdopkaekjaaTab10
namespace Go.Vm
set_option linter.unusedSimpArgs false
set_option linter.unusedVariables false
variable {α : Type}
/-- A list whose things are their cells. -/
def Rep.Pure (ρ : Rep α) : Prop := ∀ (H H' : Heap) (S S' : Nat → Prop) a cs, ρ.R H S a cs → ρ.R H' S' a cs
theorem Rep.Pure.L {ρ : Rep α} (hp : ρ.Pure) {H H' : Heap} {S S' : Nat → Prop} : ∀ {l : List α} {cs : List Value}, ρ.L H S l cs → ρ.L H' S' l cs
  | [], cs, h => h
  | a :: l, cs, h => by
    obtain ⟨c1, c2, e, h1, h2⟩ := h
    exact ⟨c1, c2, e, hp _ _ _ _ _ _ h1, Rep.Pure.L hp h2⟩
/-- A list appended to none. -/
theorem clone_app (ρ : Rep α) (hp : ρ.Pure) {P : Program} {t : TypeId} (T : TF P t ρ.k) {H : Heap} {S : Nat → Prop} {v : Value} {l : List α} (g : ρ.G H S v l) (hl : l.length ≤ 100000) :
    ∃ v' H', exAppend P [t, t] (.slice (some ⟨H.n, 0, none⟩) 0 0) v (H.push (.row true 0 ρ.k [])) = some (v', H') ∧ ρ.G H' (fun i => H.n ≤ i) v' l ∧ Same (fun _ => False) H H' := by
  obtain ⟨cs, c1, k1, b1, rfl⟩ := ρ.G_cells g
  have n1 := ρ.L_len c1
  obtain ⟨e, bb, z, h1, h2, h3, h4, h5, h6, h7, h8⟩ := T.ok
  have hb : (l.length + 200) * bb ≤ 140737488355328 := by
    have : (l.length + 200) * bb ≤ (100000 + 200) * 1000 := Nat.mul_le_mul (by omega) h4
    omega
  have k1' : cellsOf (H.push (.row true 0 ρ.k [])) ρ.k l.length (.slice b1 l.length l.length) = some cs := by
    cases b1 with
    | none => exact k1
    | some q =>
      obtain ⟨id, off, p⟩ := q
      cases p with
      | some _ => exact k1
      | none =>
        simp only [cellsOf] at k1 ⊢
        cases hg : H.get id with
        | row own tl es ds =>
          have hlt := Heap.lt_of_get hg (by simp)
          rw [Heap.get_push, if_neg (by omega), hg]
          rw [hg] at k1
          exact k1
        | _ => rw [hg] at k1; cases k1
  have hg : (H.push (.row true 0 ρ.k [])).get H.n = .row true 0 ρ.k [] := Heap.get_push_self _ _
  by_cases h0 : l.length = 0
  · have hln : l = [] := List.eq_nil_of_length_eq_zero h0
    subst hln
    refine ⟨.slice (some ⟨H.n, 0, none⟩) 0 0, H.push (.row true 0 ρ.k []), ?_, ρ.G_empty H (Nat.le_refl _), Same.push _ _ _⟩
    simp only [List.length_nil] at k1' hb
    simp only [exAppend, h1, h8, exAppendRow, h2, h3, h5, lenA, List.length_nil, k1']
    simp [h6, h7]
    omega
  · refine ⟨.slice (some ⟨H.n + 1, 0, none⟩) l.length l.length, (H.push (.row true 0 ρ.k [])).push (.row true 1 ρ.k cs), ?_, ?_, (Same.push _ _ _).then_push _⟩
    · simp only [exAppend, h1, h8, exAppendRow, h2, h3, h5, lenA, k1', hg]
      simp [h6, h7, h0, hb]
      omega
    · exact .inr ⟨H.n + 1, 1, cs, rfl, by omega, by omega, Heap.get_push_self (H.push (.row true 0 ρ.k [])) _, hp.L c1⟩
end Go.Vm
namespace Go.Vm.Scope
open Go Go.Proofs Go.Vm.Parse
set_option maxRecDepth 100000
set_option maxHeartbeats 4000000
set_option linter.unusedSimpArgs false
set_option linter.unusedVariables false
attribute [local simp] repCells_succ writeAt rd_Fr toList_beq gpe gpn spe gse gsn ne_r0 ne_l0 le_s0 ne_r1 ne_l1 lt_s1 le_s1 ne_r2 ne_l2 lt_s2 le_s2 ne_r3 ne_l3 lt_s3 le_s3 ne_r4 ne_l4 lt_s4 le_s4 ne_r5 ne_l5 lt_s5 le_s5 ne_r6 ne_l6 lt_s6 le_s6 ne_r7 ne_l7 lt_s7 le_s7
theorem pure_int : repInt.Pure := fun _ _ _ _ _ _ h => h
theorem pure_cel : repCel.Pure := fun _ _ _ _ _ _ h => h
section
variable {E : Hooks} (hE : Plain E)
include hE
theorem cloneC_run {H : Heap} {S : Nat → Prop} {v : Value} {l : List Cel} (g : repCel.G H S v l) (hl : l.length ≤ 100000) : ∃ v' H', (run Try.prog E).call 58 [v] H = some (.val v', H') ∧ repCel.G H' (fun i => H.n ≤ i) v' l ∧ Same (fun _ => False) H H' := by
  suffices key : Gives ((run Try.prog E).call 58 [v] H) fun o H' => ∃ v', o = .val v' ∧ repCel.G H' (fun i => H.n ≤ i) v' l ∧ Same (fun _ => False) H H' by
    obtain ⟨o, H', e, v', rfl, k⟩ := key
    exact ⟨v', H', e, k⟩
  obtain ⟨v', H', e, g', k'⟩ := clone_app repCel pure_cel tf_cel g hl
  obtain ⟨b', rfl⟩ := repCel.G_slice g'
  simp only [repCel] at e
  rw [c_CloneC hE, callB, bodyOf]
  rcases id g with ⟨rfl, rfl⟩ | ⟨id, tl, cs, rfl, _⟩
  · simp [Try.f58]
    exact ⟨repCel.G_nil _ _, Same.refl _ _⟩
  · simp [Try.f58, e]
    exact ⟨g', k'⟩
theorem cloneI_run {H : Heap} {S : Nat → Prop} {v : Value} {l : List Int} (g : repInt.G H S v l) (hl : l.length ≤ 100000) : ∃ v' H', (run Try.prog E).call 59 [v] H = some (.val v', H') ∧ repInt.G H' (fun i => H.n ≤ i) v' l ∧ Same (fun _ => False) H H' := by
  suffices key : Gives ((run Try.prog E).call 59 [v] H) fun o H' => ∃ v', o = .val v' ∧ repInt.G H' (fun i => H.n ≤ i) v' l ∧ Same (fun _ => False) H H' by
    obtain ⟨o, H', e, v', rfl, k⟩ := key
    exact ⟨v', H', e, k⟩
  obtain ⟨v', H', e, g', k'⟩ := clone_app repInt pure_int tf_int g hl
  obtain ⟨b', rfl⟩ := repInt.G_slice g'
  simp only [repInt] at e
  rw [c_CloneI hE, callB, bodyOf]
  rcases id g with ⟨rfl, rfl⟩ | ⟨id, tl, cs, rfl, _⟩
  · simp [Try.f59]
    exact ⟨repInt.G_nil _ _, Same.refl _ _⟩
  · simp [Try.f59, e]
    exact ⟨g', k'⟩
variable {H : Heap} {col : Nat → Nat} {tid nid pid rid : Nat} {v1 v2 v3 v4 v5 : Value} {T : Tab} (h : RTab H col tid nid pid rid v1 v2 v3 v4 v5 T) (hok : TOK T)
include h hok
theorem cells_run : ∃ v H', (run Try.prog E).call 18 [.pointer (some ⟨tid, 0, none⟩)] H = some (.val v, H') ∧ repCel.G H' (fun i => H.n ≤ i) v T.cells ∧ Same (fun _ => False) H H' := by
  suffices key : Gives ((run Try.prog E).call 18 [.pointer (some ⟨tid, 0, none⟩)] H) fun o H' => ∃ v, o = .val v ∧ repCel.G H' (fun i => H.n ≤ i) v T.cells ∧ Same (fun _ => False) H H' by
    obtain ⟨o, H', e, v', rfl, k⟩ := key
    exact ⟨v', H', e, k⟩
  have g0 := h.obj
  obtain ⟨v, H', e, g', k⟩ := cloneC_run hE h.g3 (by have := hok.c; omega)
  obtain ⟨b, rfl⟩ := repCel.G_slice g'
  obtain ⟨b2, rfl⟩ := repCel.G_slice h.g3
  rw [c_sCells hE, callB, bodyOf]
  simp [Try.f18, g0, e]
  exact ⟨g', k⟩
theorem semas_run : ∃ v H', (run Try.prog E).call 21 [.pointer (some ⟨tid, 0, none⟩)] H = some (.val v, H') ∧ repInt.G H' (fun i => H.n ≤ i) v T.semas ∧ Same (fun _ => False) H H' := by
  suffices key : Gives ((run Try.prog E).call 21 [.pointer (some ⟨tid, 0, none⟩)] H) fun o H' => ∃ v, o = .val v ∧ repInt.G H' (fun i => H.n ≤ i) v T.semas ∧ Same (fun _ => False) H H' by
    obtain ⟨o, H', e, v', rfl, k⟩ := key
    exact ⟨v', H', e, k⟩
  have g0 := h.obj
  obtain ⟨v, H', e, g', k⟩ := cloneI_run hE h.g4 (by have := hok.s; omega)
  obtain ⟨b, rfl⟩ := repInt.G_slice g'
  obtain ⟨b2, rfl⟩ := repInt.G_slice h.g4
  rw [c_sSemas hE, callB, bodyOf]
  simp [Try.f21, g0, e]
  exact ⟨g', k⟩
theorem totals_run : ∃ v H', (run Try.prog E).call 23 [.pointer (some ⟨tid, 0, none⟩)] H = some (.val v, H') ∧ repInt.G H' (fun i => H.n ≤ i) v T.totals ∧ Same (fun _ => False) H H' := by
  suffices key : Gives ((run Try.prog E).call 23 [.pointer (some ⟨tid, 0, none⟩)] H) fun o H' => ∃ v, o = .val v ∧ repInt.G H' (fun i => H.n ≤ i) v T.totals ∧ Same (fun _ => False) H H' by
    obtain ⟨o, H', e, v', rfl, k⟩ := key
    exact ⟨v', H', e, k⟩
  have g0 := h.obj
  obtain ⟨v, H', e, g', k⟩ := cloneI_run hE h.g5 (by have := hok.t; omega)
  obtain ⟨b, rfl⟩ := repInt.G_slice g'
  obtain ⟨b2, rfl⟩ := repInt.G_slice h.g5
  rw [c_sTotals hE, callB, bodyOf]
  simp [Try.f23, g0, e]
  exact ⟨g', k⟩
end
end Go.Vm.Scope
