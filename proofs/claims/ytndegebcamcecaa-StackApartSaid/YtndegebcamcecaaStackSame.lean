/- What is proved: a step of both, and their comparison. -/
import Derived.Test.YtndegebcamcecaaStackSteps
namespace Go.Vm.StackLaw
open Go Go.Proofs
set_option maxRecDepth 100000
set_option linter.unusedSimpArgs false
attribute [local simp] repCells_succ writeAt rd_Fr
theorem p3 : planOf Try.prog (drawN Try.f19 0) = some [none, none, none, none, (some (0, 1)), (some (0, 1)), (some (0, 1)), none, none, none] := by decide +kernel
theorem p9 : planOf Try.prog (drawN Try.f19 1) = some [none, none, none, none, none, none, none, none, (some (0, 1)), (some (0, 1)), (some (0, 1)), (some (0, 1)), (some (0, 1)), (some (0, 1)), (some (0, 1)), none, none, none] := by decide +kernel
theorem p14 : planOf Try.prog (drawN Try.f19 2) = some [none, none, none, none, none, none, (some (0, 1)), (some (0, 1)), (some (0, 1)), (some (0, 1)), (some (0, 1)), none, none, none] := by decide +kernel
section
variable {H : Heap} {k sp q : Nat} {rf : Option Nat} {a s u : Nat} {fms : List Fm} {zs : List Int} {t fr : Nat} {fs : List RF} (B : Both H k sp q rf a s u fms zs t fr fs)
set_option linter.unusedSectionVars false
include B
theorem Both.same0 {H' : Heap} (f : Same (fun _ => False) H H') : Both H' k sp q rf a s u fms zs t fr fs := ⟨B.st.same0 f, B.rs.same f fun _ _ h => h, B.rel, B.dj⟩
theorem step_run (kd x y z : Int) (hz : z ≤ 9223372036854775807) : Gives (W.call 19 [ptr k, ptr t, .agg #[iv kd, iv x, iv y, iv z]] H) fun o H' => o = .val (.bool true) ∧ Stepped H k sp q rf a s zs t fr fs H' := by
  have f0 := Same.push (fun _ => False) H (.row true 0 1 [iv kd, iv x, iv y, iv z])
  have B0 := B.same0 f0
  have g0 := Heap.get_push_self H (.row true 0 1 [iv kd, iv x, iv y, iv z])
  have hback : ∀ H', Stepped (H.push (.row true 0 1 [iv kd, iv x, iv y, iv z])) k sp q rf a s zs t fr fs H' → Stepped H k sp q rf a s zs t fr fs H' := by
    rintro H' ⟨rf', u', fms', zs', fr', fs', b, hl, hz, f, n⟩
    exact ⟨rf', u', fms', zs', fr', fs', b, hl, hz, (f0.mono fun i h => h.elim).trans f, fun i hi => (n i hi).imp id (fun h => Nat.le_trans f0.n h)⟩
  have hrow : ∀ H1, Same (fun i => i = k ∨ i = q ∨ rf = some i) (H.push (.row true 0 1 [iv kd, iv x, iv y, iv z])) H1 → H1.get H.n = .row true 0 1 [iv kd, iv x, iv y, iv z] := fun H1 f => f.at g0 (by simp) (fun e => by
    have := B.st.rflt (i := H.n) (e.elim .inl fun e => .inr (.inr e)); omega)
  rw [c19, callB, bodyOf]
  by_cases c0 : kd = 0
  · subst c0
    obtain ⟨c, H1, H2, e1, e2, S, f1⟩ := both_push B0 x
    have g1 := hrow H1 f1
    simp only [ptr_eq, iv_eq] at e1 e2 g0 g1
    simp [Try.f19, g0]
    refine region_plan (by exact p3) ?_
    simp [g0, e1, g1, e2]
    exact hback _ S
  by_cases c1 : kd = 1
  · subst c1
    obtain ⟨y', c, H1, H2, e1, e2, S, f1⟩ := both_pop B0
    simp only [ptr_eq, iv_eq] at e1 e2 g0
    simp [Try.f19, g0, e1, e2]
    exact hback _ S
  by_cases c2 : kd = 2
  · subst c2
    obtain ⟨c, H1, H2, e1, e2, S, f1⟩ := both_call B0 x y z hz
    have g1 := hrow H1 f1
    simp only [ptr_eq, iv_eq] at e1 e2 g0 g1
    simp [Try.f19, g0]
    refine region_plan (by exact p9) ?_
    simp [g0, e1, g1, e2]
    exact hback _ S
  by_cases c3 : kd = 3
  · subst c3
    obtain ⟨y', b, H1, H2, e1, e2, S, f1⟩ := both_ret B0
    simp only [ptr_eq, iv_eq] at e1 e2 g0
    simp [Try.f19, g0, e1, e2]
    exact hback _ S
  · obtain ⟨b, H1, H2, e1, e2, S, f1⟩ := both_set B0 x y
    have g1 := hrow H1 f1
    simp only [ptr_eq, iv_eq] at e1 e2 g0 g1
    simp [Try.f19, g0, c0, c1, c2, c3]
    refine region_plan (by exact p14) ?_
    simp [g0, e1, g1, e2]
    exact hback _ S
theorem both_top (i : Int) : ∃ y b H1, W.call 21 [ptr k, iv i] H = some (.val (.tuple #[iv y, .bool b]), H1) ∧ W.call 37 [ptr t, iv i] H1 = some (.val (.tuple #[iv y, .bool b]), H1) ∧ Same (fun _ => False) H H1 := by
  obtain ⟨f, fs', rfl, h1, h2, h3, h4, h5, h6, h7⟩ := B.top
  by_cases c : i < 0 ∨ (f.ops.length : Int) ≤ i
  · obtain ⟨H1, e1, f1⟩ := top_none B.st i (by omega)
    exact ⟨0, false, H1, e1, rtop_none (B.rs.same f1 fun _ _ h => h) (by omega) i c, f1⟩
  · obtain ⟨j, rfl⟩ : ∃ j : Nat, i = j := ⟨i.toNat, by omega⟩
    obtain ⟨H1, e1, T1, f1⟩ := top_run B.st j (by omega) (by omega)
    have e2 := rtop_some (B.rs.same f1 fun _ _ h => h) (by omega) (by omega) j (by omega)
    obtain ⟨f', fs2, he, t1, t2, t3, t4, t5, _⟩ := B.rel.top
    cases he
    have := t5 (f.ops.length - 1 - j) (by omega)
    rw [show u - f.ops.length + (f.ops.length - 1 - j) = u - 1 - j by omega] at this
    rw [show ((j : Nat) : Int).toNat = j by omega, this] at e1
    exact ⟨_, true, H1, e1, e2, f1⟩
theorem both_local (i : Int) : ∃ y b H1, W.call 16 [ptr k, iv i] H = some (.val (.tuple #[iv y, .bool b]), H1) ∧ W.call 38 [ptr t, iv i] H1 = some (.val (.tuple #[iv y, .bool b]), H1) ∧ Same (fun _ => False) H H1 := by
  obtain ⟨f, fs', rfl, h1, h2, h3, h4, h5, h6, h7⟩ := B.top
  obtain ⟨f', fs2, he, t1, t2, t3, t4, t5, t6, t7, t8⟩ := B.rel.top
  cases he
  by_cases c : 0 ≤ i ∧ i < nloc fms
  · obtain ⟨j, rfl⟩ : ∃ j : Nat, i = j := ⟨i.toNat, by omega⟩
    obtain ⟨H1, e1, T1, f1⟩ := local_run B.st j c.1 c.2 (by omega)
    have e2 := rloc_some (B.rs.same f1 fun _ _ h => h) (by omega) j (by omega)
    have := t8 j (by omega)
    rw [show (fbase fms + (j : Int)).toNat = (fbase fms).toNat + j by omega, this] at e1
    exact ⟨_, true, H1, e1, e2, f1⟩
  · obtain ⟨H1, e1, f1⟩ := local_none B.st i c
    exact ⟨0, false, H1, e1, rloc_none (B.rs.same f1 fun _ _ h => h) (by omega) i (by omega), f1⟩
theorem same_run : Gives (W.call 20 [ptr k, ptr t] H) fun o H' => o = .val (.bool true) ∧ Same (fun _ => False) H H' := by
  obtain ⟨f, fs', hfs, h1, h2, h3, h4, h5, h6, h7⟩ := B.top
  have e1 := len_run B.st.cur
  have e2 := rlen_run B.rs (by rw [hfs]; simp only [List.length_cons]; omega) (by rw [hfs]; omega)
  have e3 := frames_run B.st.cur
  have hlen := B.rel.len.1
  have R0 := B.rs
  rw [hfs] at R0 e2 hlen
  have e4 := rfrm_run R0 (by omega)
  obtain ⟨H1, e5, T1, f1⟩ := B.st.opn
  have e6 := rops_run (R0.same f1 fun _ _ h => h) (by omega)
  rw [h3] at e2
  rw [h1] at e5
  rw [show fs'.length = fms.length by simpa using hlen] at e4
  simp only [ptr_eq, iv_eq] at e1 e2 e3 e4 e5 e6
  rw [c20, callB, bodyOf]
  simp [Try.f20, e1, e2, e3, e4, e5, e6]
  refine loop_wp (fun m r H' => rd r 5 = iv ((f.ops.length : Int) + 1 - m) ∧ m ≤ f.ops.length + 2 ∧ Same (fun _ => False) H H') (f.ops.length + 2) ⟨by simp; omega, by omega, f1⟩ ?_
  clear e1 e2 e3 e4 e5 e6 T1 f1
  rintro m r H1 hk ⟨g5, hm, f1⟩
  have ht : r.length = 84 := hk.1.trans (by simp [len_Bs])
  have hh := hk.all [0, 1] (by decide +kernel)
  simp at hh
  obtain ⟨r0, r1⟩ := hh
  simp only [iv_eq] at g5
  have B1 := B.same0 f1
  have R1 := B1.rs
  rw [hfs] at R1
  have e1 := rops_run R1 (by omega)
  simp only [ptr_eq, iv_eq] at e1
  by_cases h0 : m = 0
  · subst h0
    simp [ht, r0, r1, g5, e1, show ¬ (f.ops.length : Int) + 1 ≤ f.ops.length by omega]
    refine loop_wp (fun m r H' => rd r 10 = iv (10 - (m : Int)) ∧ m ≤ 11 ∧ Same (fun _ => False) H H') 11 ⟨by simp [ht], by omega, f1⟩ ?_
    rintro m r' H2 hk ⟨g10, hm, f2⟩
    have ht' : r'.length = 84 := hk.1.trans (by simp [ht])
    have hh := hk.all [0, 1] (by decide +kernel)
    simp [ht, r0, r1] at hh
    obtain ⟨u0, u1⟩ := hh
    simp only [iv_eq] at g10
    by_cases h0 : m = 0
    · subst h0
      simp [ht', u0, u1, g10]
      exact f2
    · obtain ⟨y, b, H3, e2, e3, f3⟩ := both_local (B.same0 f2) (10 - (m : Int))
      simp only [ptr_eq, iv_eq] at e2 e3
      simp [ht', u0, u1, g10, show 10 - (m : Int) < 10 by omega, show 0 < m by omega, e2, e3, wrap64 (10 - (m : Int) + 1) (by omega) (by omega)]
      exact ⟨m - 1, by omega, by omega, by omega, f2.trans f3⟩
  · obtain ⟨y, b, H3, e2, e3, f3⟩ := both_top B1 ((f.ops.length : Int) + 1 - m)
    simp only [ptr_eq, iv_eq] at e2 e3
    simp [ht, r0, r1, g5, e1, show (f.ops.length : Int) + 1 - m ≤ f.ops.length by omega, e2, e3, wrap64 ((f.ops.length : Int) + 1 - m + 1) (by omega) (by omega)]
    exact ⟨m - 1, by omega, by omega, by omega, f1.trans f3⟩
end
end Go.Vm.StackLaw
