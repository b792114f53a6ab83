/- What is proved: 'signalboxlaw4.StackApart' hands back true, whatever the input. -/
import Derived.Test.YtndegebcamcecaaStackPlays
namespace Go.Vm.StackLaw
open Go Go.Proofs
set_option maxRecDepth 100000
set_option linter.unusedSimpArgs false
attribute [local simp] repCells_succ writeAt rd_Fr
section
variable {H H' : Heap} {k sp q : Nat} {rf rf' : Option Nat} {a s u u' : Nat} {fms fms' : List Fm} {zs zs' : List Int} {t fr fr' : Nat} {fs fs' : List RF}
variable {k2 : Nat} {rf2 : Option Nat} {a2 u2 : Nat} {fm2 : List Fm} {t2 fr2 : Nat} {fs2 : List RF}
theorem Both.flt (O : Both H k sp q rf a s u fms zs t fr fs) {i : Nat} (h : Foot k rf t fr fs i) : i < H.n := by
  rcases h with h | h | h
  · exact O.st.rflt (.inl h)
  · exact O.st.rflt (.inr (.inr (.inr h)))
  · exact O.rs.lt h
theorem Both.kept (O : Both H k2 sp q rf2 a2 s u2 fm2 zs t2 fr2 fs2) (A : Both H' k sp q rf' a s u' fms' zs' t fr' fs') (hl : zs'.length = zs.length) (hz : ∀ j, ¬ (a ≤ j ∧ j < a + s) → zs'.getD j 0 = zs.getD j 0)
    (f : Same (fun i => i = q ∨ Foot k rf t fr fs i) H H') (hr : a2 + s ≤ a ∨ a + s ≤ a2) (ap : ∀ i, Foot k rf t fr fs i → ¬ Foot k2 rf2 t2 fr2 fs2 i) : Both H' k2 sp q rf2 a2 s u2 fm2 zs' t2 fr2 fs2 := by
  obtain ⟨st, rs, rel, dj⟩ := O
  have hus := st.used
  refine ⟨{ st with cur := st.cur.same f (fun e => e.elim st.kq (fun e => ap k2 e (.inl rfl))) (fun i hi e => e.elim (fun e => st.rq (by rw [hi, e])) (fun e => ap i e (.inr (.inl hi)))), sto := A.st.sto, fit := by rw [hl]; exact st.fit, big := by rw [hl]; exact st.big },
    rs.same f (fun i hi e => e.elim (fun e => dj q (.inr (.inr (.inl rfl))) (by rw [← e]; exact hi)) (fun e => ap i e (.inr (.inr hi)))), rel.congr fun j hj => hz _ (by omega), dj⟩
end
/-- Two pairs of one store, and the law's lists. -/
structure Duo (H : Heap) (s : Nat) (bl bm : Option Addr) (nl nm : Nat) (sl sm : Nat → Int × Int × Int × Int) (ka kb t1 t2 : Nat) : Prop where
  ex : ∃ rf u fms zs fr fs rf2 u2 fm2 fr2 fs2, Both H ka 3 2 rf 10 s u fms zs t1 fr fs ∧ Both H kb 3 2 rf2 (10 + s) s u2 fm2 zs t2 fr2 fs2 ∧ (∀ i, Foot ka rf t1 fr fs i → ¬ Foot kb rf2 t2 fr2 fs2 i) ∧
    (∀ i, i ≤ 1 → ¬ Foot ka rf t1 fr fs i ∧ ¬ Foot kb rf2 t2 fr2 fs2 i)
  l : QL H bl 0 nl sl
  m : QL H bm 1 nm sm
section
variable {H : Heap} {s : Nat} {bl bm : Option Addr} {nl nm : Nat} {sl sm : Nat → Int × Int × Int × Int} {ka kb t1 t2 : Nat} (D : Duo H s bl bm nl nm sl sm ka kb t1 t2)
include D
theorem Duo.one (kd x y z : Int) (hz : z ≤ 9223372036854775807) : Gives (W.call 19 [ptr ka, ptr t1, .agg #[iv kd, iv x, iv y, iv z]] H) fun o H' => o = .val (.bool true) ∧ Duo H' s bl bm nl nm sl sm ka kb t1 t2 := by
  obtain ⟨⟨rf, u, fms, zs, fr, fs, rf2, u2, fm2, fr2, fs2, A, B, ap, lo⟩, hl, hm⟩ := D
  obtain ⟨o, H', e, rfl, rf', u', fms', zs', fr', fs', A1, z1, z2, f, n⟩ := step_run A kd x y z hz
  have h4 := A.st.rflt (i := 2) (.inr (.inr (.inl rfl)))
  refine ⟨_, H', e, rfl, ⟨rf', u', fms', zs', fr', fs', rf2, u2, fm2, fr2, fs2, A1, B.kept A1 z1 z2 f (.inr (Nat.le_refl _)) ap, fun i h1 h2 => (n i h1).elim (fun h => ap i h h2) (fun h => by have := B.flt h2; omega), fun i hi => ⟨fun h => (n i h).elim (lo i hi).1 (fun h => by omega), (lo i hi).2⟩⟩,
    hl.same f (fun e => e.elim (by omega) (lo 0 (by omega)).1), hm.same f (fun e => e.elim (by omega) (lo 1 (by omega)).1)⟩
theorem Duo.two (kd x y z : Int) (hz : z ≤ 9223372036854775807) : Gives (W.call 19 [ptr kb, ptr t2, .agg #[iv kd, iv x, iv y, iv z]] H) fun o H' => o = .val (.bool true) ∧ Duo H' s bl bm nl nm sl sm ka kb t1 t2 := by
  obtain ⟨⟨rf, u, fms, zs, fr, fs, rf2, u2, fm2, fr2, fs2, A, B, ap, lo⟩, hl, hm⟩ := D
  obtain ⟨o, H', e, rfl, rf', u', fms', zs', fr', fs', B1, z1, z2, f, n⟩ := step_run B kd x y z hz
  have h4 := A.st.rflt (i := 2) (.inr (.inr (.inl rfl)))
  refine ⟨_, H', e, rfl, ⟨rf, u, fms, zs', fr, fs, rf', u', fms', fr', fs', A.kept B1 z1 z2 f (.inl (Nat.le_refl _)) (fun i h1 h2 => ap i h2 h1), B1, fun i h1 h2 => (n i h2).elim (fun h => ap i h1 h) (fun h => by have := A.flt h1; omega), fun i hi => ⟨(lo i hi).1, fun h => (n i h).elim (lo i hi).2 (fun h => by omega)⟩⟩,
    hl.same f (fun e => e.elim (by omega) (lo 0 (by omega)).2), hm.same f (fun e => e.elim (by omega) (lo 1 (by omega)).2)⟩
theorem Duo.same1 : Gives (W.call 20 [ptr ka, ptr t1] H) fun o H' => o = .val (.bool true) ∧ Duo H' s bl bm nl nm sl sm ka kb t1 t2 := by
  obtain ⟨⟨rf, u, fms, zs, fr, fs, rf2, u2, fm2, fr2, fs2, A, B, ap, lo⟩, hl, hm⟩ := D
  obtain ⟨o, H', e, rfl, f⟩ := same_run A
  exact ⟨_, H', e, rfl, ⟨rf, u, fms, zs, fr, fs, rf2, u2, fm2, fr2, fs2, A.same0 f, B.same0 f, ap, lo⟩, hl.same f (fun h => h), hm.same f (fun h => h)⟩
theorem Duo.same2 : Gives (W.call 20 [ptr kb, ptr t2] H) fun o H' => o = .val (.bool true) ∧ Duo H' s bl bm nl nm sl sm ka kb t1 t2 := by
  obtain ⟨⟨rf, u, fms, zs, fr, fs, rf2, u2, fm2, fr2, fs2, A, B, ap, lo⟩, hl, hm⟩ := D
  obtain ⟨o, H', e, rfl, f⟩ := same_run B
  exact ⟨_, H', e, rfl, ⟨rf, u, fms, zs, fr, fs, rf2, u2, fm2, fr2, fs2, A.same0 f, B.same0 f, ap, lo⟩, hl.same f (fun h => h), hm.same f (fun h => h)⟩
end
theorem max_run (t : List TypeId) (x y : Int) (H : Heap) : exBuiltin Try.prog .max t [.int .i64 x, .int .i64 y] H = some (.val (.int .i64 (max x y)), H) := by
  have h : max x y = if y > x then y else x := by by_cases h : y > x <;> simp only [h, if_true, if_false] <;> omega
  rw [h]
  simp only [exBuiltin, groundL, ground, Builtin.max_, List.foldlM, val1, ifGround]
  rfl
theorem apart_walk (size : Int) (_w : Lit.wf (.int .i64 size) = true) (x1 : Value) (o1 : AObj) (fa1 : FlatArg (isInt .i64) 4 0 x1 o1) (x2 : Value) (o2 : AObj) (fa2 : FlatArg (isInt .i64) 4 1 x2 o2) :
    Gives (W.call 6 [.int .i64 size, x1, x2] ((Heap.empty.push o1).push o2)) fun o _ => o = .val (.bool true) := by
  clear _w
  obtain ⟨bl, nl, cl, sl, rfl, hql⟩ := ql_of fa1
  obtain ⟨bm, nm, cm, sm, rfl, hqm⟩ := ql_of fa2
  clear fa1 fa2
  rw [c6, callB, bodyOf]
  by_cases k1 : (30 : Int) < nl
  · simp [Try.f6, awake_true, k1]
  by_cases k2 : (30 : Int) < nm
  · simp [Try.f6, awake_true, k1, k2]
  by_cases k3 : size < 0
  · simp [Try.f6, awake_true, k1, k2, k3]
  by_cases k4 : 30 < size
  · simp [Try.f6, awake_true, k1, k2, k3, k4]
  obtain ⟨s, rfl⟩ : ∃ v : Nat, size = v := ⟨size.toNat, by omega⟩
  have hl0 := hql ((Heap.empty.push o1).push o2) (by rw [Heap.get_push, if_neg (by simp [Heap.empty])]; exact Heap.get_push_self Heap.empty _)
  have hm0 := hqm ((Heap.empty.push o1).push o2) (Heap.get_push_self (Heap.empty.push o1) _)
  have hn0 : ((Heap.empty.push o1).push o2).n = 2 := rfl
  generalize (Heap.empty.push o1).push o2 = H0 at *
  clear hql hqm
  obtain ⟨H1, e1, S1, n1, f1⟩ := snew_run H0 80 (by omega)
  rw [hn0] at e1 S1 n1
  obtain ⟨H2, e2, T2, f2⟩ := new_run S1 (by simp) 10 s (by simp; omega)
  rw [n1] at e2 T2
  have hl80 : (List.replicate 80 (0 : Int)).length = 80 := by simp
  generalize List.replicate 80 (0 : Int) = zs at *
  obtain ⟨H3, e3, T3, f3⟩ := new_run T2.sto T2.big (10 + s) s (by omega)
  have T2' := T2.same0 f3
  obtain ⟨H4, e4, R4, f4⟩ := rnew_run H3 s
  obtain ⟨H5, e5, R5, f5⟩ := rnew_run H4 s
  have d1 : 4 < H2.n := T2.cur.lt
  have d2 : H2.n < H3.n := T3.cur.lt
  have d3 : H3.n + 1 < H4.n := R4.lt (by simp)
  have D5 : Duo H5 s bl bm nl nm sl sm 4 H2.n (H3.n + 1) (H4.n + 1) := by
    refine ⟨⟨none, 0, [], zs, H3.n, [outer], none, 0, [], H4.n, [outer], ⟨(T2'.same0 f4).same0 f5, R4.same f5 (fun _ _ h => h), ⟨outer, rfl, rfl, rfl, fun j hj => by simp [outer] at hj⟩, fun i hi hm => ?_⟩,
      ⟨(T3.same0 f4).same0 f5, R5, ⟨outer, rfl, rfl, rfl, fun j hj => by simp [outer] at hj⟩, fun i hi hm => ?_⟩, fun i h1 h2 => ?_, fun i hi => ⟨fun h => ?_, fun h => ?_⟩⟩,
      ((((hl0.same f1 (fun h => h)).same f2 (fun h => h)).same f3 (fun h => h)).same f4 (fun h => h)).same f5 (fun h => h), ((((hm0.same f1 (fun h => h)).same f2 (fun h => h)).same f3 (fun h => h)).same f4 (fun h => h)).same f5 (fun h => h)⟩
    · simp [rowsOf, outer] at hm
      rcases hi with hi | hi | hi | hi <;> first | omega | cases hi
    · simp [rowsOf, outer] at hm
      rcases hi with hi | hi | hi | hi <;> first | omega | cases hi
    · simp [Foot, rowsOf, outer] at h1 h2
      omega
    · simp [Foot, rowsOf, outer] at h
      omega
    · simp [Foot, rowsOf, outer] at h
      omega
  clear T2 T2' T3 R4 R5 S1 f1 f2 f3 f4 f5 hl0 hm0
  simp only [ptr_eq, iv_eq, Int.natCast_add] at e1 e2 e3 e4 e5
  rw [show ((80 : Nat) : Int) = 80 by rfl] at e1
  rw [show ((10 : Nat) : Int) = 10 by rfl] at e2 e3
  generalize H2.n = kb at *
  generalize H3.n + 1 = t1 at *
  generalize H4.n + 1 = t2 at *
  simp [Try.f6, awake_true, k1, k2, k3, k4, e1, e2, e3, e4, e5, wrap64 (10 + (s : Int)) (by omega) (by omega)]
  clear e1 e2 e3 e4 e5
  refine loop_wp (fun m r H => ∃ i, i + m = max nl nm ∧ rd r 13 = iv (i : Nat) ∧ Duo H s bl bm nl nm sl sm 4 kb t1 t2) (max nl nm) ⟨0, by omega, by simp, D5⟩ ?_
  clear D5
  rintro m r H hk ⟨i, hi, g13, D⟩
  have ht : r.length = 103 := hk.1.trans (by simp [len_Bs])
  have hh := hk.all [1, 2, 9, 10, 11, 12] (by decide +kernel)
  simp at hh
  obtain ⟨r1, r2, r9, r10, r11, r12⟩ := hh
  simp only [iv_eq] at g13
  by_cases hm : m = 0
  · subst hm
    obtain ⟨o, H1, e1, rfl, D1⟩ := D.same1
    obtain ⟨o, H2, e2, rfl, D2⟩ := D1.same2
    simp only [ptr_eq] at e1 e2
    simp [ht, r1, r2, r9, r10, r11, r12, g13, max_run, show ¬ (i : Int) < max (nl : Int) nm by omega, e1, e2, awake_true]
  · have hlt : (i : Int) < max (nl : Int) nm := by omega
    by_cases ha : i < nl
    · obtain ⟨rfl, cs, q0, q1, q2⟩ := D.l (by omega)
      obtain ⟨q3, q4, q5, q6, q7⟩ := q2 i ha
      obtain ⟨o, H1, e1, rfl, D1⟩ := D.one (sl i).1 (sl i).2.1 (sl i).2.2.1 (sl i).2.2.2 q3
      have hd := take4 q4 q5 q6 q7
      simp only [ptr_eq, iv_eq] at e1 hd
      by_cases hb : i < nm
      · obtain ⟨rfl, cs', q0', q1', q2'⟩ := D1.m (by omega)
        obtain ⟨q3', q4', q5', q6', q7'⟩ := q2' i hb
        obtain ⟨o, H2, e2, rfl, D2⟩ := D1.two (sm i).1 (sm i).2.1 (sm i).2.2.1 (sm i).2.2.2 q3'
        have hd' := take4 q4' q5' q6' q7'
        simp only [ptr_eq, iv_eq] at e2 hd'
        simp [ht, r1, r2, r9, r10, r11, r12, g13, max_run, hlt, ha, hb, q0, hd, show i * 4 + 4 ≤ cs.length by omega, e1, q0', hd', show i * 4 + 4 ≤ cs'.length by omega, e2, wrap64 ((i : Int) + 1) (by omega) (by omega)]
        exact ⟨m - 1, by omega, i + 1, by omega, by omega, D2⟩
      · simp [ht, r1, r2, r9, r10, r11, r12, g13, max_run, hlt, ha, hb, q0, hd, show i * 4 + 4 ≤ cs.length by omega, e1, wrap64 ((i : Int) + 1) (by omega) (by omega)]
        exact ⟨m - 1, by omega, i + 1, by omega, by omega, D1⟩
    · have hb : i < nm := by omega
      obtain ⟨rfl, cs', q0', q1', q2'⟩ := D.m (by omega)
      obtain ⟨q3', q4', q5', q6', q7'⟩ := q2' i hb
      obtain ⟨o, H2, e2, rfl, D2⟩ := D.two (sm i).1 (sm i).2.1 (sm i).2.2.1 (sm i).2.2.2 q3'
      have hd' := take4 q4' q5' q6' q7'
      simp only [ptr_eq, iv_eq] at e2 hd'
      simp [ht, r1, r2, r9, r10, r11, r12, g13, max_run, hlt, ha, hb, q0', hd', show i * 4 + 4 ≤ cs'.length by omega, e2, wrap64 ((i : Int) + 1) (by omega) (by omega)]
      exact ⟨m - 1, by omega, i + 1, by omega, by omega, D2⟩
end Go.Vm.StackLaw
