/- What is proved: a stack and the reference's, step by step. -/
import Derived.Test.YtndegebcamcecaaStackRel
namespace Go.Vm.StackLaw
open Go Go.Proofs
set_option maxRecDepth 100000
set_option linter.unusedSimpArgs false
attribute [local simp] repCells_succ writeAt rd_Fr
/-- Both, apart. -/
structure Both (H : Heap) (k sp q : Nat) (rf : Option Nat) (a s u : Nat) (fms : List Fm) (zs : List Int) (t fr : Nat) (fs : List RF) : Prop where
  st : St H k sp q rf a s u fms zs
  rs : RS H t fr s fs
  rel : Rel zs a u fms fs
  dj : ∀ i, (i = k ∨ i = sp ∨ i = q ∨ rf = some i) → i ∉ t :: fr :: rowsOf fs
/-- What is a pair's own, but for the words. -/
def Foot (k : Nat) (rf : Option Nat) (t fr : Nat) (fs : List RF) (i : Nat) : Prop := i = k ∨ rf = some i ∨ i ∈ t :: fr :: rowsOf fs
theorem St.rflt {H : Heap} {k sp q : Nat} {rf : Option Nat} {a s u : Nat} {fs : List Fm} {zs : List Int} (h : St H k sp q rf a s u fs zs) {i : Nat} (hi : i = k ∨ i = sp ∨ i = q ∨ rf = some i) : i < H.n := by
  rcases hi with rfl | rfl | rfl | hi
  · exact h.cur.lt
  · exact Heap.lt_of_get h.sto.store (by simp)
  · exact Heap.lt_of_get h.sto.words (by simp)
  · obtain ⟨⟨v, _, g⟩, _⟩ := h.cur; exact g.lt hi
section
variable {H H1 H2 : Heap} {k sp q : Nat} {rf rf' : Option Nat} {a s u u' : Nat} {fms fms' : List Fm} {zs zs' : List Int} {t fr fr' : Nat} {fs fs' : List RF} (B : Both H k sp q rf a s u fms zs t fr fs)
set_option linter.unusedSectionVars false
include B
theorem Both.rs1 (f1 : Same (fun i => i = k ∨ i = q ∨ rf = some i) H H1) : RS H1 t fr s fs :=
  B.rs.same f1 fun i hi e => B.dj i (e.elim .inl fun e => .inr (.inr e)) hi
theorem Both.mk' (h1 : St H1 k sp q rf' a s u' fms' zs') (f1 : Same (fun i => i = k ∨ i = q ∨ rf = some i) H H1) (n1 : Newer H rf rf') (h2 : RS H2 t fr' s fs') (f2 : Same (fun i => i ∈ t :: fr :: rowsOf fs) H1 H2)
    (n2 : ∀ i, i ∈ fr' :: rowsOf fs' → i ∈ fr :: rowsOf fs ∨ H1.n ≤ i) (r : Rel zs' a u' fms' fs') :
    Both H2 k sp q rf' a s u' fms' zs' t fr' fs' ∧ Same (fun i => i = q ∨ Foot k rf t fr fs i) H H2 ∧ ∀ i, Foot k rf' t fr' fs' i → Foot k rf t fr fs i ∨ H.n ≤ i := by
  have hold : ∀ i, (i = k ∨ i = sp ∨ i = q ∨ rf' = some i) → (i = k ∨ i = sp ∨ i = q ∨ rf = some i) ∨ H.n ≤ i := by
    rintro i (h | h | h | h)
    · exact .inl (.inl h)
    · exact .inl (.inr (.inl h))
    · exact .inl (.inr (.inr (.inl h)))
    · exact (n1 i h).imp (fun h => .inr (.inr (.inr h))) id
  have hnot : ∀ i, (i = k ∨ i = sp ∨ i = q ∨ rf' = some i) → i ∉ t :: fr :: rowsOf fs := fun i hi hm =>
    (hold i hi).elim (fun h => B.dj i h hm) (fun h => by have := B.rs.lt hm; omega)
  refine ⟨⟨h1.same f2 (hnot k (.inl rfl)) (hnot sp (.inr (.inl rfl))) (hnot q (.inr (.inr (.inl rfl)))) (fun i hi => hnot i (.inr (.inr (.inr hi)))), h2, r, fun i hi hm => ?_⟩, ?_, fun i hi => ?_⟩
  · rcases List.mem_cons.1 hm with rfl | hm
    · exact hnot _ hi (by simp)
    · rcases n2 i hm with h | h
      · exact hnot i hi (List.mem_cons_of_mem _ h)
      · have := h1.rflt hi; omega
  · refine (f1.mono fun i h => ?_).trans (f2.mono fun i h => .inr (.inr (.inr h)))
    rcases h with h | h | h
    · exact .inr (.inl h)
    · exact .inl h
    · exact .inr (.inr (.inl h))
  · rcases hi with h | h | h
    · exact .inl (.inl h)
    · exact (n1 i h).imp (fun h => .inr (.inl h)) id
    · rcases List.mem_cons.1 h with h | h
      · exact .inl (.inr (.inr (by rw [h]; simp)))
      · exact (n2 i h).imp (fun h => .inr (.inr (List.mem_cons_of_mem _ h))) (fun h => Nat.le_trans f1.n h)
/-- What a step makes of both. -/
def Stepped (H : Heap) (k sp q : Nat) (rf : Option Nat) (a s : Nat) (zs : List Int) (t fr : Nat) (fs : List RF) (H' : Heap) : Prop :=
  ∃ rf' u' fms' zs' fr' fs', Both H' k sp q rf' a s u' fms' zs' t fr' fs' ∧ zs'.length = zs.length ∧ (∀ j, ¬ (a ≤ j ∧ j < a + s) → zs'.getD j 0 = zs.getD j 0) ∧
    Same (fun i => i = q ∨ Foot k rf t fr fs i) H H' ∧ ∀ i, Foot k rf' t fr' fs' i → Foot k rf t fr fs i ∨ H.n ≤ i
theorem Both.stepped (h1 : St H1 k sp q rf' a s u' fms' zs') (f1 : Same (fun i => i = k ∨ i = q ∨ rf = some i) H H1) (n1 : Newer H rf rf') (h2 : RS H2 t fr' s fs') (f2 : Same (fun i => i ∈ t :: fr :: rowsOf fs) H1 H2)
    (n2 : ∀ i, i ∈ fr' :: rowsOf fs' → i ∈ fr :: rowsOf fs ∨ H1.n ≤ i) (r : Rel zs' a u' fms' fs') (hl : zs'.length = zs.length) (hz : ∀ j, ¬ (a ≤ j ∧ j < a + s) → zs'.getD j 0 = zs.getD j 0) : Stepped H k sp q rf a s zs t fr fs H2 := by
  obtain ⟨b, f, n⟩ := B.mk' h1 f1 n1 h2 f2 n2 r
  exact ⟨rf', u', fms', zs', fr', fs', b, hl, hz, f, n⟩
/-- Nothing but new memory. -/
theorem Both.still (f : Same (fun _ => False) H H2) : Stepped H k sp q rf a s zs t fr fs H2 :=
  B.stepped (B.st.same0 f) (f.mono fun i h => h.elim) (Newer.refl _ _) (B.rs.same f fun _ _ h => h) (Same.refl _ _) (fun i hi => .inl hi) B.rel rfl (fun _ _ => rfl)
theorem Both.top : ∃ f fs', fs = f :: fs' ∧ StackLaw.opn u fms = f.ops.length ∧ fs'.length ≤ 9000 ∧ tot (f :: fs') = u ∧ u ≤ 8192 ∧ f.ops.length ≤ u ∧ s ≤ 8192 ∧ fms.length ≤ 9000 := by
  obtain ⟨f, fs', rfl, h1, _, h3, h4, _⟩ := B.rel.top
  obtain ⟨a1, a2, a3⟩ := B.rel.len
  have b1 := B.st.used
  have b2 := B.st.fit
  have b3 := B.st.big
  exact ⟨f, fs', rfl, h1, by omega, a3, by omega, h3, by omega, by omega⟩
end
end Go.Vm.StackLaw
