/- What is proved: both do the same, step by step. -/
import Derived.Test.YtndegebcamcecaaStackBoth
namespace Go.Vm.StackLaw
open Go Go.Proofs
set_option maxRecDepth 100000
set_option linter.unusedSimpArgs false
attribute [local simp] repCells_succ writeAt rd_Fr
section
variable {H : Heap} {k sp q : Nat} {rf : Option Nat} {a s u : Nat} {fms : List Fm} {zs : List Int} {t fr : Nat} {fs : List RF} (B : Both H k sp q rf a s u fms zs t fr fs)
set_option linter.unusedSectionVars false
include B
theorem both_push (x : Int) : ∃ c H1 H2, W.call 10 [ptr k, iv x] H = some (.val (iv c), H1) ∧ W.call 28 [ptr t, iv x] H1 = some (.val (iv c), H2) ∧ Stepped H k sp q rf a s zs t fr fs H2 ∧ Same (fun i => i = k ∨ i = q ∨ rf = some i) H H1 := by
  obtain ⟨f, fs', rfl, h1, h2, h3, h4, h5, h6, h7⟩ := B.top
  by_cases c : s ≤ u
  · exact ⟨41, H, H, push_full B.st c x, rpush_full B.rs (by omega) (by omega) (by omega) x, B.still (Same.refl _ _), Same.refl _ _⟩
  · obtain ⟨H1, e1, T1, f1⟩ := push_run B.st (by omega) x
    have f1' : Same (fun i => i = k ∨ i = q ∨ rf = some i) H H1 := f1.mono fun i h => h.imp id .inl
    obtain ⟨H2, ov, r, e2, R2, f2, hr⟩ := rpush_run (B.rs1 f1') (by omega) (by omega) (by omega) (by omega) x
    have hfit := B.st.fit
    refine ⟨0, H1, H2, e1, e2, B.stepped T1 f1' (Newer.refl _ _) R2 (f2.mono fun i h => ?_) (fun i hi => ?_) (B.rel.push (by omega) x ov (some r)) (by simp) (fun j hj => by rw [getD_set _ _ _ _ (by omega), if_neg (by omega)]), f1'⟩
    · rcases h with rfl | h
      · simp
      · simp [mem_rows (fs := f :: fs') (f := f) (by simp) (.inr h)]
    · rcases List.mem_cons.1 hi with rfl | hi
      · exact .inl (by simp)
      · rw [rowsOf_cons] at hi ⊢
        simp only [List.mem_append, Option.mem_toList, List.mem_cons] at hi ⊢
        rcases hi with (hi | hi) | hi
        · exact .inl (.inr (.inl (.inl hi)))
        · cases hi; exact .inr hr
        · exact .inl (.inr (.inr hi))
theorem both_pop : ∃ y c H1 H2, W.call 12 [ptr k] H = some (.val (.tuple #[iv y, iv c]), H1) ∧ W.call 29 [ptr t] H1 = some (.val (.tuple #[iv y, iv c]), H2) ∧ Stepped H k sp q rf a s zs t fr fs H2 ∧ Same (fun i => i = k ∨ i = q ∨ rf = some i) H H1 := by
  obtain ⟨f, fs', rfl, h1, h2, h3, h4, h5, h6, h7⟩ := B.top
  by_cases c : f.ops = []
  · obtain ⟨H1, e1, f1⟩ := pop_none B.st (by rw [h1, c]; rfl)
    exact ⟨0, 4, H1, H1, e1, rpop_none (B.rs.same f1 fun _ _ h => h) (by omega) c, B.still f1, f1.mono fun i h => h.elim⟩
  · have hl : 0 < f.ops.length := by cases hh : f.ops with | nil => exact absurd hh c | cons _ _ => simp
    obtain ⟨H1, e1, T1, f1⟩ := pop_run B.st (by omega) (by omega)
    have f1' : Same (fun i => i = k ∨ i = q ∨ rf = some i) H H1 := f1.mono fun i h => .inl h
    obtain ⟨H2, ov, r, e2, R2, f2, hr⟩ := rpop_run (B.rs1 f1') (by omega) (by omega) c
    obtain ⟨f', fs2, he, t1, t2, t3, t4, t5, _⟩ := B.rel.top
    cases he
    have := t5 (f.ops.length - 1) (by omega)
    rw [show u - f.ops.length + (f.ops.length - 1) = u - 1 by omega] at this
    rw [this] at e1
    refine ⟨_, 0, H1, H2, e1, e2, B.stepped T1 f1' (Newer.refl _ _) R2 (f2.mono fun i h => ?_) (fun i hi => ?_) (B.rel.pop hl ov (some r)) rfl (fun j hj => rfl), f1'⟩
    · rcases h with rfl | h
      · simp
      · simp [mem_rows (fs := f :: fs') (f := f) (by simp) (.inr h)]
    · rcases List.mem_cons.1 hi with rfl | hi
      · exact .inl (by simp)
      · rw [rowsOf_cons] at hi ⊢
        simp only [List.mem_append, Option.mem_toList, List.mem_cons] at hi ⊢
        rcases hi with (hi | hi) | hi
        · exact .inl (.inr (.inl (.inl hi)))
        · cases hi; exact .inr hr
        · exact .inl (.inr (.inr hi))
theorem both_set (i x : Int) : ∃ b H1 H2, W.call 32 [ptr k, iv i, iv x] H = some (.val (.bool b), H1) ∧ W.call 33 [ptr t, iv i, iv x] H1 = some (.val (.bool b), H2) ∧ Stepped H k sp q rf a s zs t fr fs H2 ∧ Same (fun i => i = k ∨ i = q ∨ rf = some i) H H1 := by
  obtain ⟨f, fs', rfl, h1, h2, h3, h4, h5, h6, h7⟩ := B.top
  obtain ⟨f', fs2, he, t1, t2, t3, t4, t5, t6, t7, _⟩ := B.rel.top
  cases he
  by_cases c : 0 ≤ i ∧ i < nloc fms
  · obtain ⟨j, rfl⟩ : ∃ j : Nat, i = j := ⟨i.toNat, by omega⟩
    have hj : j < f.locs.length := by omega
    obtain ⟨H1, e1, T1, f1⟩ := set_run B.st j x c.1 c.2 (by omega)
    have f1' : Same (fun i => i = k ∨ i = q ∨ rf = some i) H H1 := f1.mono fun i h => .inr (.inl h)
    obtain ⟨H2, e2, R2, f2⟩ := rset_some (B.rs1 f1') (by omega) j x hj
    have hfit := B.st.fit
    have hne := t7 (fun e => by rw [e] at hj; simp at hj)
    have hus := B.st.used
    refine ⟨true, H1, H2, e1, e2, B.stepped T1 f1' (Newer.refl _ _) R2 (f2.mono fun i h => ?_) (fun i hi => .inl hi) (B.rel.loc (by omega) j hj x) (by simp) (fun j hj => by rw [getD_set _ _ _ _ (by omega), if_neg (by omega)]), f1'⟩
    simp [mem_rows (fs := f :: fs') (f := f) (by simp) (.inl h)]
  · obtain ⟨H1, e1, f1⟩ := set_none B.st i x c
    exact ⟨false, H1, H1, e1, rset_none (B.rs.same f1 fun _ _ h => h) (by omega) i x (by omega), B.still f1, f1.mono fun i h => h.elim⟩
theorem both_ret : ∃ y b H1 H2, W.call 17 [ptr k] H = some (.val (.tuple #[iv y, .bool b]), H1) ∧ W.call 31 [ptr t] H1 = some (.val (.tuple #[iv y, .bool b]), H2) ∧ Stepped H k sp q rf a s zs t fr fs H2 ∧ Same (fun i => i = k ∨ i = q ∨ rf = some i) H H1 := by
  obtain ⟨f, fs', rfl, h1, h2, h3, h4, h5, h6, h7⟩ := B.top
  have hl := B.rel.len.1
  cases hf : fms with
  | nil =>
    rw [hf] at hl
    obtain rfl : fs' = [] := List.eq_nil_of_length_eq_zero (by simpa using hl)
    obtain ⟨H1, e1, f1⟩ := ret_none B.st hf
    exact ⟨0, false, H1, H1, e1, rret_none (B.rs.same f1 fun _ _ h => h) rfl, B.still f1, f1.mono fun i h => h.elim⟩
  | cons fm fms' =>
    have hrel := B.rel
    rw [hf] at hrel
    obtain ⟨r1, r2, r3, r4⟩ := hrel.ret
    have hus := B.st.used
    obtain ⟨H1, e1, T1, f1⟩ := ret_run B.st hf (by omega)
    have f1' : Same (fun i => i = k ∨ i = q ∨ rf = some i) H H1 := f1.mono fun i h => .inl h
    obtain ⟨H2, e2, R2, f2⟩ := rret_run (B.rs1 f1') r2 (by omega)
    rw [r1] at e2
    refine ⟨_, true, H1, H2, e1, e2, B.stepped T1 f1' (Newer.refl _ _) R2 (f2.mono fun i h => by simp [h]) (fun i hi => .inl ?_) r4 rfl (fun j hj => rfl), f1'⟩
    rcases List.mem_cons.1 hi with rfl | hi
    · simp
    · rw [rowsOf_cons]; simp [hi]
theorem both_call (back params locals : Int) (hp2 : locals ≤ 9223372036854775807) : ∃ c H1 H2, W.call 13 [ptr k, iv back, iv params, iv locals] H = some (.val (iv c), H1) ∧ W.call 30 [ptr t, iv back, iv params, iv locals] H1 = some (.val (iv c), H2) ∧ Stepped H k sp q rf a s zs t fr fs H2 ∧ Same (fun i => i = k ∨ i = q ∨ rf = some i) H H1 := by
  obtain ⟨f, fs', rfl, h1, h2, h3, h4, h5, h6, h7⟩ := B.top
  by_cases c1 : params < 0 ∨ locals < params
  · exact ⟨1, H, H, call_bad B.st back params locals c1, rcall_bad B.rs back params locals c1, B.still (Same.refl _ _), Same.refl _ _⟩
  by_cases c2 : (f.ops.length : Int) < params
  · obtain ⟨H1, e1, f1⟩ := call_few B.st back params locals (by omega) (by omega) (by omega)
    exact ⟨4, H1, H1, e1, rcall_few (B.rs.same f1 fun _ _ h => h) (by omega) back params locals (by omega) (by omega) c2, B.still f1, f1.mono fun i h => h.elim⟩
  have hus := B.st.used
  by_cases c3 : (s : Int) - u - 2 < locals - params
  · obtain ⟨H1, e1, f1⟩ := call_full B.st back params locals (by omega) (by omega) (by omega) (by omega) c3
    exact ⟨41, H1, H1, e1, rcall_full (B.rs.same f1 fun _ _ h => h) (by omega) (by omega) (by omega) back params locals (by omega) (by omega) (by omega) (by omega) (by omega), B.still f1, f1.mono fun i h => h.elim⟩
  obtain ⟨p, rfl⟩ : ∃ p : Nat, params = p := ⟨params.toNat, by omega⟩
  obtain ⟨n, rfl⟩ : ∃ n : Nat, locals = (p + n : Nat) := ⟨(locals - p).toNat, by omega⟩
  obtain ⟨o, H1, e1, rfl, rf', zs', T1, C1, f1, n1⟩ := call_run B.st back p n (by omega) (by omega) (by omega) (by omega)
  obtain ⟨H2, fr', lv, ov, l, o, e2, R2, f2, b1, b2, b3⟩ := rcall_run (B.rs1 f1) (by omega) (by omega) (by omega) back p n (by omega) (by omega) (by omega) (by omega)
  refine ⟨0, H1, H2, e1, e2, B.stepped T1 f1 n1 R2 (f2.mono fun i h => ?_) (fun i hi => ?_) (B.rel.call (by omega) back C1 lv ov _ (some l) (some o)) C1.1 (fun j hj => ?_), f1⟩
  · rcases h with rfl | rfl | h
    · simp
    · simp
    · simp [mem_rows (fs := f :: fs') (f := f) (by simp) (.inr h)]
  · rcases List.mem_cons.1 hi with rfl | hi
    · exact .inr b1
    · rw [rowsOf_cons, rowsOf_cons] at hi
      rw [rowsOf_cons]
      simp only [List.mem_append, Option.mem_toList, List.mem_cons] at hi ⊢
      rcases hi with (hi | hi) | (hi | hi) | hi
      · cases hi; exact .inr b2
      · cases hi
      · exact .inl (.inr (.inl (.inl hi)))
      · cases hi; exact .inr b3
      · exact .inl (.inr (.inr hi))
  · rw [C1.2, if_neg (by omega), if_neg (by omega), if_neg (by omega)]
end
end Go.Vm.StackLaw
