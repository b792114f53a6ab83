/- What is proved: how a stack's words stand to the reference's frames, and that both stay so; plain laws, and what is kept apart. -/
import Derived.Test.YtndegebcamcecaaStackRef5
namespace Go.Vm.StackLaw
open Go Go.Proofs
set_option maxRecDepth 100000
set_option linter.unusedSimpArgs false
theorem getD_app (xs ys : List Int) (j : Nat) : (xs ++ ys).getD j 0 = if j < xs.length then xs.getD j 0 else ys.getD (j - xs.length) 0 := by
  simp only [List.getD_eq_getElem?_getD, List.getElem?_append]
  split <;> rfl
theorem getD_take (xs : List Int) (m j : Nat) (h : j < m) : (xs.take m).getD j 0 = xs.getD j 0 := by
  simp only [List.getD_eq_getElem?_getD, List.getElem?_take, if_pos h]
theorem getD_drop (xs : List Int) (m j : Nat) : (xs.drop m).getD j 0 = xs.getD (m + j) 0 := by
  simp only [List.getD_eq_getElem?_getD, List.getElem?_drop]
theorem getD_rep (n j : Nat) : (List.replicate n (0 : Int)).getD j 0 = 0 := by
  simp only [List.getD_eq_getElem?_getD, List.getElem?_replicate]
  split <;> rfl
/-- The words, up to 'u', are the frames'. -/
def Rel (zs : List Int) (a : Nat) : Nat → List Fm → List RF → Prop
  | u, [], fs => ∃ f, fs = [f] ∧ f.locs = [] ∧ u = f.ops.length ∧ ∀ j, j < f.ops.length → zs.getD (a + j) 0 = f.ops.getD j 0
  | u, (b, n, back) :: fms, fs => ∃ f fs', ∃ base : Nat, fs = f :: fs' ∧ f.back = back ∧ (f.locs.length : Int) = n ∧ b = base ∧ u = base + f.locs.length + 2 + f.ops.length ∧
      (∀ j, j < f.locs.length → zs.getD (a + (base + j)) 0 = f.locs.getD j 0) ∧ (∀ j, j < f.ops.length → zs.getD (a + (base + f.locs.length + 2 + j)) 0 = f.ops.getD j 0) ∧ Rel zs a base fms fs'
theorem Rel.len {zs : List Int} {a : Nat} : ∀ {u fms fs}, Rel zs a u fms fs → fs.length = fms.length + 1 ∧ 2 * fms.length ≤ u ∧ tot fs = u
  | u, [], fs, h => by obtain ⟨f, rfl, h1, h2, _⟩ := h; simp [tot, h2]
  | u, (b, n, back) :: fms, fs, h => by
    obtain ⟨f, fs', base, rfl, h1, h2, h3, h4, h5, h6, h7⟩ := h
    obtain ⟨a1, a2, a3⟩ := h7.len
    have hne : fs' ≠ [] := fun e => by rw [e] at a1; simp at a1
    simp only [List.length_cons, tot, if_neg hne]
    omega
theorem Rel.congr {zs zs' : List Int} {a : Nat} : ∀ {u fms fs}, Rel zs a u fms fs → (∀ j, j < u → zs'.getD (a + j) 0 = zs.getD (a + j) 0) → Rel zs' a u fms fs
  | u, [], fs, h, k => by obtain ⟨f, rfl, h1, h2, h3⟩ := h; exact ⟨f, rfl, h1, h2, fun j hj => by rw [k j (by omega), h3 j hj]⟩
  | u, (b, n, back) :: fms, fs, h, k => by
    obtain ⟨f, fs', base, rfl, h1, h2, h3, h4, h5, h6, h7⟩ := h
    exact ⟨f, fs', base, rfl, h1, h2, h3, h4, fun j hj => by rw [k _ (by omega), h5 j hj], fun j hj => by rw [k _ (by omega), h6 j hj], h7.congr fun j hj => k j (by omega)⟩
/-- The innermost frame, whichever it is. -/
theorem Rel.top {zs : List Int} {a u : Nat} {fms : List Fm} {fs : List RF} (h : Rel zs a u fms fs) : ∃ f fs', fs = f :: fs' ∧ opn u fms = f.ops.length ∧ nloc fms = f.locs.length ∧ f.ops.length ≤ u ∧ fs'.length = fms.length ∧
    (∀ j, j < f.ops.length → zs.getD (a + (u - f.ops.length + j)) 0 = f.ops.getD j 0) ∧ 0 ≤ fbase fms ∧ (f.locs ≠ [] → fbase fms + f.locs.length + 2 + f.ops.length = u) ∧ (∀ j, j < f.locs.length → zs.getD (a + ((fbase fms).toNat + j)) 0 = f.locs.getD j 0) := by
  have hl := h.len
  cases fms with
  | nil =>
    obtain ⟨f, rfl, h1, h2, h3⟩ := h
    refine ⟨f, [], rfl, by simp [opn, h2], by simp [nloc, h1], by omega, rfl, fun j hj => by rw [show u - f.ops.length + j = j by omega]; exact h3 j hj, by simp [fbase], fun e => absurd h1 e, fun j hj => by rw [h1] at hj; simp at hj⟩
  | cons fm fms =>
    obtain ⟨b, n, back⟩ := fm
    obtain ⟨f, fs', base, rfl, h1, h2, h3, h4, h5, h6, h7⟩ := h
    refine ⟨f, fs', rfl, by simp only [opn]; omega, by simp only [nloc]; omega, by omega, by simpa using hl.1, fun j hj => by rw [show u - f.ops.length + j = base + f.locs.length + 2 + j by omega]; exact h6 j hj, by simp only [fbase]; omega, fun _ => by simp only [fbase]; omega, fun j hj => by
      simp only [fbase]; rw [h3, show ((base : Nat) : Int).toNat = base by omega]; exact h5 j hj⟩
/-- The operands turn to others: words from the innermost frame's on. -/
theorem Rel.ops {zs zs' : List Int} {a u u' : Nat} {fms : List Fm} {f : RF} {fs : List RF} (h : Rel zs a u fms (f :: fs)) (g : RF) (hb : g.back = f.back) (hlc : g.locs = f.locs) (hu : u' + f.ops.length = u + g.ops.length)
    (h1 : ∀ j, j < u - f.ops.length → zs'.getD (a + j) 0 = zs.getD (a + j) 0) (h2 : ∀ j, j < g.ops.length → zs'.getD (a + (u - f.ops.length + j)) 0 = g.ops.getD j 0) : Rel zs' a u' fms (g :: fs) := by
  cases fms with
  | nil =>
    obtain ⟨f', he, k1, k2, k3⟩ := h
    cases he
    refine ⟨g, rfl, by rw [hlc, k1], by omega, fun j hj => ?_⟩
    have := h2 j hj
    rwa [show u - f.ops.length + j = j by omega] at this
  | cons fm fms =>
    obtain ⟨b, n, back⟩ := fm
    obtain ⟨f', fs', base, he, k1, k2, k3, k4, k5, k6, k7⟩ := h
    cases he
    refine ⟨g, fs, base, rfl, by rw [hb, k1], by rw [hlc, k2], k3, by rw [hlc]; omega, fun j hj => ?_, fun j hj => ?_, k7.congr fun j hj => h1 j (by omega)⟩
    · rw [hlc] at hj ⊢
      rw [h1 _ (by omega)]
      exact k5 j hj
    · have := h2 j hj
      rwa [hlc, show base + f.locs.length + 2 + j = u - f.ops.length + j by omega]
theorem Rel.push {zs : List Int} {a u : Nat} {fms : List Fm} {f : RF} {fs : List RF} (h : Rel zs a u fms (f :: fs)) (hu : a + u < zs.length) (x : Int) (ov : Value) (oi : Option Nat) : Rel (zs.set (a + u) x) a (u + 1) fms ({ f with ov := ov, ops := f.ops ++ [x], oi := oi } :: fs) := by
  obtain ⟨f', fs', he, t1, t2, t3, t4, t5, _⟩ := h.top
  cases he
  refine h.ops _ rfl rfl (by simp only [List.length_append, List.length_singleton]; omega) (fun j hj => by rw [getD_set _ _ _ _ hu, if_neg (by omega)]) (fun j hj => ?_)
  rw [getD_set _ _ _ _ hu]
  simp only [List.length_append, List.length_singleton] at hj
  simp only []
  rw [getD_app]
  by_cases c : j < f.ops.length
  · rw [if_neg (by omega), if_pos c]; exact t5 j c
  · rw [if_pos (by omega), if_neg c, show j - f.ops.length = 0 by omega]; rfl
theorem Rel.pop {zs : List Int} {a u : Nat} {fms : List Fm} {f : RF} {fs : List RF} (h : Rel zs a u fms (f :: fs)) (ho : 0 < f.ops.length) (ov : Value) (oi : Option Nat) : Rel zs a (u - 1) fms ({ f with ov := ov, ops := f.ops.take (f.ops.length - 1), oi := oi } :: fs) := by
  obtain ⟨f', fs', he, t1, t2, t3, t4, t5, _⟩ := h.top
  cases he
  refine h.ops _ rfl rfl (by simp only [List.length_take]; omega) (fun j hj => rfl) (fun j hj => ?_)
  simp only [List.length_take] at hj
  simp only []
  rw [getD_take _ _ _ (by omega)]
  exact t5 j (by omega)
theorem Rel.loc {zs : List Int} {a u : Nat} {fms : List Fm} {f : RF} {fs : List RF} (h : Rel zs a u fms (f :: fs)) (hu : a + u ≤ zs.length) (i : Nat) (hi : i < f.locs.length) (x : Int) : Rel (zs.set (a + (fbase fms + i).toNat) x) a u fms ({ f with locs := f.locs.set i x } :: fs) := by
  cases fms with
  | nil =>
    obtain ⟨f', he, k1, k2, k3⟩ := h
    cases he
    rw [k1] at hi; simp at hi
  | cons fm fms =>
    obtain ⟨b, n, back⟩ := fm
    obtain ⟨f', fs', base, he, k1, k2, k3, k4, k5, k6, k7⟩ := h
    cases he
    simp only [fbase]
    rw [k3, show ((base : Int) + (i : Int)).toNat = base + i by omega]
    refine ⟨_, fs, base, rfl, k1, by simpa using k2, rfl, by simpa using k4, fun j hj => ?_, fun j hj => ?_, k7.congr fun j hj => by rw [getD_set _ _ _ _ (by omega), if_neg (by omega)]⟩
    · simp only [List.length_set] at hj
      simp only []
      rw [getD_set _ _ _ _ (by omega), getD_set _ _ _ _ hi]
      by_cases c : j = i
      · rw [if_pos (by omega), if_pos c]
      · rw [if_neg (by omega), if_neg c]; exact k5 j hj
    · simp only [List.length_set] at hj ⊢
      rw [getD_set _ _ _ _ (by omega), if_neg (by omega)]
      exact k6 j hj
theorem Rel.call {zs zs' : List Int} {a u p n : Nat} {fms : List Fm} {f : RF} {fs : List RF} (h : Rel zs a u fms (f :: fs)) (hp : p ≤ f.ops.length) (back : Int) (hc : Called a u n (u - p) (p + n) back zs zs') (lv ov ov' : Value) (l o : Option Nat) :
    Rel zs' a (u + n + 2) (((u - p : Nat), (p + n : Nat), back) :: fms) (⟨back, lv, ov', f.ops.drop (f.ops.length - p) ++ List.replicate n 0, [], l, none⟩ :: { f with ov := ov, ops := f.ops.take (f.ops.length - p), oi := o } :: fs) := by
  obtain ⟨f', fs', he, t1, t2, t3, t4, t5, _⟩ := h.top
  cases he
  have hlen : (f.ops.drop (f.ops.length - p) ++ List.replicate n (0 : Int)).length = p + n := by simp; omega
  refine ⟨_, _, u - p, rfl, rfl, by simp only [hlen], rfl, by simp only [hlen, List.length_nil]; omega, fun j hj => ?_, fun j hj => by simp at hj, h.ops _ rfl rfl (by simp only [List.length_take]; omega) (fun j hj => ?_) (fun j hj => ?_)⟩
  · simp only [hlen] at hj
    rw [hc.2, if_neg (by omega), if_neg (by omega)]
    simp only []
    rw [getD_app, getD_drop, getD_rep, List.length_drop, show f.ops.length - (f.ops.length - p) = p by omega]
    by_cases c : j < p
    · rw [if_neg (by omega), if_pos c]
      have := t5 (f.ops.length - p + j) (by omega)
      rwa [show u - f.ops.length + (f.ops.length - p + j) = u - p + j by omega] at this
    · rw [if_pos (by omega), if_neg c]
  · rw [hc.2, if_neg (by omega), if_neg (by omega), if_neg (by omega)]
  · simp only [List.length_take] at hj
    simp only []
    rw [hc.2, if_neg (by omega), if_neg (by omega), if_neg (by omega), getD_take _ _ _ (by omega)]
    exact t5 j (by omega)
theorem Rel.ret {zs : List Int} {a u : Nat} {fm : Fm} {fms : List Fm} {f : RF} {fs : List RF} (h : Rel zs a u (fm :: fms) (f :: fs)) : f.back = fm.2.2 ∧ fs ≠ [] ∧ fm.1 ≤ u ∧ Rel zs a fm.1.toNat fms fs := by
  obtain ⟨b, n, back⟩ := fm
  obtain ⟨f', fs', base, he, k1, k2, k3, k4, k5, k6, k7⟩ := h
  cases he
  refine ⟨k1, fun e => ?_, by simp only []; omega, ?_⟩
  · have := k7.len.1
    rw [e] at this
    simp at this
  · simp only []
    rwa [k3, show ((base : Nat) : Int).toNat = base by omega]
end Go.Vm.StackLaw
