/- What is proved: what the reference's stack turns: back, calls, returns. -/
import Derived.Test.YtndegebcamcecaaStackRef2
namespace Go.Vm.StackLaw
open Go Go.Proofs
set_option maxRecDepth 100000
set_option linter.unusedSimpArgs false
attribute [local simp] repCells_succ writeAt rd_Fr
/-- A list that is read, with no room behind it. -/
def CL (H : Heap) (v : Value) (xs : List Int) (rr : Option Nat) : Prop :=
  ∃ base, v = .slice base xs.length xs.length ∧ ((base = none ∧ xs = []) ∨ ∃ r off own tl cs, rr = some r ∧ base = some ⟨r, off, none⟩ ∧ H.get r = .row own tl 1 cs ∧ off + xs.length ≤ cs.length ∧ (cs.drop off).take xs.length = xs.map iv)
theorem GL.cl {H : Heap} {v : Value} {xs : List Int} {r : Option Nat} (h : GL H v xs r) : CL H v xs r := by
  rcases h with ⟨rfl, rfl, rfl⟩ | ⟨r, off, cs, tl, h0, rfl, h2, h3, h4, h5⟩
  · exact ⟨none, rfl, .inl ⟨rfl, rfl⟩⟩
  · exact ⟨_, rfl, .inr ⟨r, off, true, tl, cs, h0, rfl, h2, h3, h4⟩⟩
theorem CL.sl {H : Heap} {v : Value} {xs : List Int} {rr : Option Nat} (h : CL H v xs rr) : SL H v xs := by
  obtain ⟨base, rfl, h | ⟨r, off, own, tl, cs, _, h1, h2, h3, h4⟩⟩ := h
  · exact ⟨base, _, rfl, .inl h⟩
  · exact ⟨base, _, rfl, .inr ⟨r, off, own, tl, 1, cs, h1, h2, h3, h4⟩⟩
/-- The first ones. -/
theorem CL.cut {H : Heap} {b : Option Addr} {xs : List Int} {n c : Nat} {rr : Option Nat} (h : CL H (.slice b n c) xs rr) (k : Nat) (hk : k ≤ xs.length) : exSlice Try.prog 34 (.slice b n c) none (some (.int .i64 k)) none H = some (.slice b k c, H) ∧ SL H (.slice b k c) (xs.take k) := by
  obtain ⟨base, h0, h | ⟨r, off, own, tl, cs, _, h1, h2, h3, h4⟩⟩ := h
  · obtain ⟨rfl, rfl⟩ := h
    cases h0
    obtain rfl : k = 0 := by simpa using hk
    exact ⟨by simp [exSlice, Try.underlying34], none, 0, rfl, .inl ⟨rfl, rfl⟩⟩
  · cases h0
    subst h1
    refine ⟨?_, some ⟨r, off, none⟩, xs.length, by rw [List.length_take, Nat.min_eq_left hk], .inr ⟨r, off, own, tl, 1, cs, rfl, h2, by rw [List.length_take, Nat.min_eq_left hk]; omega, ?_⟩⟩
    · have hkk : (k : Int) ≤ xs.length := by omega
      simp only [exSlice, Try.underlying34, size3, cutA, boundOf, h2]
      cases tl <;> simp [hk]
    · rw [List.length_take, Nat.min_eq_left hk, List.map_take, ← h4, List.take_take, Nat.min_eq_left hk]
/-- The last ones. -/
theorem CL.rest {H : Heap} {v : Value} {xs : List Int} {r : Option Nat} (h : GL H v xs r) (k : Nat) (hk : k ≤ xs.length) : ∃ b c H', exSlice Try.prog 34 v (some (.int .i64 k)) none none H = some (.slice b (xs.length - k) c, H') ∧ SL H' (.slice b (xs.length - k) c) (xs.drop k) ∧ CL H' v xs r ∧ Same (fun i => r = some i) H H' := by
  rcases h with ⟨rfl, rfl, rfl⟩ | ⟨r, off, cs, tl, rfl, rfl, h2, h3, h4, h5⟩
  · obtain rfl : k = 0 := by simpa using hk
    exact ⟨none, 0, H, by simp [exSlice, Try.underlying34], ⟨none, 0, rfl, .inl ⟨rfl, rfl⟩⟩, ⟨none, rfl, .inl ⟨rfl, rfl⟩⟩, Same.refl _ _⟩
  have hid := Heap.lt_of_get h2 (by simp)
  have hd : (cs.drop (off + k)).take (xs.length - k) = (xs.drop k).map iv := by
    rw [List.map_drop, ← h4, List.drop_take, List.drop_drop]
  have hc : CL H (.slice (some ⟨r, off, none⟩) xs.length xs.length) xs (some r) := ⟨_, rfl, .inr ⟨r, off, true, tl, cs, rfl, rfl, h2, h3, h4⟩⟩
  by_cases hA : xs.length = k ∧ k ≠ 0
  · obtain ⟨rfl, hk0⟩ := hA
    have hk1 : ¬ ((xs.length : Int) = 0) := by omega
    have hnil : xs.drop xs.length = [] := List.drop_of_length_le (Nat.le_refl _)
    rcases h5 with rfl | ⟨rfl, h5⟩
    · refine ⟨some ⟨r, off, none⟩, 0, H, ?_, ⟨_, _, by rw [hnil, Nat.sub_self]; rfl, .inr ⟨r, off, true, 0, 1, cs, rfl, h2, by rw [hnil]; simp; omega, by rw [hnil]; simp⟩⟩, hc, Same.refl _ _⟩
      simp only [exSlice, Try.underlying34, size3, cutA, boundOf, h2]
      simp
    · have f := (Same.set (X := fun i => some r = some i) H hid rfl (.row true 2 1 cs)).trans (Same.push _ (H.set r (.row true 2 1 cs)) (.row true 1 1 []))
      refine ⟨some ⟨H.n, 0, none⟩, 0, _, ?_, ⟨_, _, by rw [hnil, Nat.sub_self]; rfl, .inr ⟨H.n, 0, true, 1, 1, [], rfl, by rw [Heap.get_push]; exact if_pos (by simp), by rw [hnil]; simp, by rw [hnil]; rfl⟩⟩, ⟨_, rfl, .inr ⟨r, off, true, 2, cs, rfl, rfl, by rw [Heap.get_push, if_neg (by simp; omega)]; exact Heap.get_set_self _ _ hid, h3, h4⟩⟩, f⟩
      simp only [exSlice, Try.underlying34, size3, cutA, boundOf, h2]
      simp [hk0, h5]
  · have hA2 : ¬ ((xs.length : Int) = k ∧ ¬ (k = 0)) := fun e => hA ⟨by omega, e.2⟩
    by_cases hkl : xs.length = k
    · obtain rfl : k = 0 := by false_or_by_contra; exact hA ⟨hkl, by assumption⟩
      obtain rfl : xs = [] := List.eq_nil_of_length_eq_zero hkl
      refine ⟨some ⟨r, off, none⟩, 0, H, ?_, ⟨_, _, rfl, .inr ⟨r, off, true, tl, 1, cs, rfl, h2, by simpa using h3, by simp⟩⟩, hc, Same.refl _ _⟩
      simp only [exSlice, Try.underlying34, size3, cutA, boundOf, h2]
      cases tl <;> simp
    · refine ⟨some ⟨r, off + k, none⟩, xs.length - k, H, ?_, ⟨_, _, by rw [List.length_drop], .inr ⟨r, off + k, true, tl, 1, cs, rfl, h2, by rw [List.length_drop]; omega, by rw [List.length_drop]; exact hd⟩⟩, hc, Same.refl _ _⟩
      simp only [exSlice, Try.underlying34, size3, cutA, boundOf, h2]
      cases tl <;> simp [hk, hkl, show ¬ ((xs.length : Int) = k) by omega]
section
variable {H : Heap} {t fr size : Nat} {f : RF} {fs : List RF} (h : RS H t fr size (f :: fs))
set_option linter.unusedSectionVars false
include h
theorem rpop_none (hl : fs.length ≤ 10000) (ho : f.ops = []) : W.call 29 [ptr t] H = some (.val (.tuple #[iv 0, iv 4]), H) := by
  have e := rops_run h hl
  rw [ho] at e
  simp only [ptr_eq, iv_eq, List.length_nil] at e
  rw [c29, callB, bodyOf]
  simp [Try.f29, e]
theorem rpop_run (hl : fs.length ≤ 10000) (hb : f.ops.length ≤ 900000) (ho : f.ops ≠ []) : ∃ H' ov' r, W.call 29 [ptr t] H = some (.val (.tuple #[iv (f.ops.getD (f.ops.length - 1) 0), iv 0]), H') ∧
    RS H' t fr size ({ f with ov := ov', ops := f.ops.take (f.ops.length - 1), oi := some r } :: fs) ∧ Same (fun i => i = fr ∨ f.oi = some i) H H' ∧ H.n ≤ r := by
  have e := rops_run h hl
  have e2 := rtop_run h rfl hl
  have hlen : 0 < f.ops.length := by cases hh : f.ops with | nil => exact absurd hh ho | cons _ _ => simp
  obtain ⟨cap, cs, tl, b1, c1, b2, c2, h1, h2, h3, h4, q0, q1, q2, _, e3⟩ := RS.top h
  have hcl := GL.cl (h.ok f (by simp)).2
  have hg := hcl.sl
  rw [e3] at hcl hg
  obtain ⟨s1, s2⟩ := hcl.cut (f.ops.length - 1) (by omega)
  obtain ⟨v, H1, r1, e4, hr1, g1, f1⟩ := copy_run s2 (by simp; omega)
  rw [show ((f.ops.length - 1 : Nat) : Int) = (f.ops.length : Int) - 1 by omega] at s1
  have f4 : Same (fun i => f.oi = some i) H H1 := f1.mono fun i h => h.elim
  obtain ⟨h5, f5⟩ := RS.setops h f4 h2 v (f.ops.take (f.ops.length - 1)) r1 g1 hr1
  refine ⟨_, v, r1, ?_, h5, f5, hr1⟩
  have h2c := f4.at h2 (by simp) (fun e => ((nd_iff _ _ _ _).1 h.nd).2.2.2.2.1 fr (.inr e) |>.2.1 rfl)
  have hw := writeAt_one cs (fs.length * 3 + 2) v (by omega)
  rcases hg with ⟨base, cap', hv, h0⟩
  cases hv
  rcases h0 with ⟨_, h0⟩ | ⟨r, off, own, tl', es, cs', rfl, k1, k2, k3⟩
  · exact absurd h0 ho
  have k4 := (SL.cell (H := H) (xs := f.ops) (r := r) (off := off) (n := f.ops.length) (cap := c2) ⟨_, _, rfl, .inr ⟨r, off, own, tl', es, cs', rfl, k1, k2, k3⟩⟩).2
  obtain ⟨cs2, m1, m2, m3⟩ := k4
  have m4 := m3 (f.ops.length - 1) (by omega)
  rw [k1, rowCells_row] at m1
  cases m1
  have key : Gives (W.call 29 [ptr t] H) fun o H' => o = .val (.tuple #[iv (f.ops.getD (f.ops.length - 1) 0), iv 0]) ∧ H' = H1.set fr (.row true tl 3 (cs.set (fs.length * 3 + 2) v)) := by
    generalize hxi : f.ops.getD (f.ops.length - 1) 0 = xi at *
    obtain ⟨b', c', rfl⟩ := GL.slice g1
    simp only [writeAt] at hw
    simp at hw
    simp only [ptr_eq, iv_eq] at e e2 h1 e4 m4
    simp [show 0 < f.ops.length by omega] at s1
    rw [c29, callB, bodyOf]
    simp [Try.f29, e, e2, h2, q2, show ¬ f.ops.length = 0 by omega, wrap64 ((f.ops.length : Int) - 1) (by omega) (by omega), show (1 : Int) ≤ f.ops.length by omega, show 1 ≤ f.ops.length by omega, show (f.ops.length : Int) - 1 < f.ops.length by omega, show ((f.ops.length : Int) - 1).toNat = f.ops.length - 1 by omega, k1, m4]
    simp [s1, e4, e2, h2c, hw, show fs.length * 3 + 2 + 1 ≤ cs.length by omega]
  obtain ⟨o, H', e, rfl, rfl⟩ := key
  exact e
end
end Go.Vm.StackLaw
