/- What is proved: 'signalboxlaw4.StackPlays' hands back true, whatever the input. -/
import Derived.Test.YtndegebcamcecaaStackSame
namespace Go.Vm.StackLaw
open Go Go.Proofs
set_option maxRecDepth 100000
set_option linter.unusedSimpArgs false
attribute [local simp] repCells_succ writeAt rd_Fr
/-- A list of steps of the law's input: its base, its row, its steps. -/
def QL (H : Heap) (b : Option Addr) (i n : Nat) (st : Nat → Int × Int × Int × Int) : Prop := n ≠ 0 → b = some ⟨i, 0, none⟩ ∧ ∃ cs, H.get i = .row false 0 0 cs ∧ n * 4 ≤ cs.length ∧ ∀ j, j < n → (st j).2.2.2 ≤ 9223372036854775807 ∧
  cs[j * 4]? = some (iv (st j).1) ∧ cs[j * 4 + 1]? = some (iv (st j).2.1) ∧ cs[j * 4 + 2]? = some (iv (st j).2.2.1) ∧ cs[j * 4 + 3]? = some (iv (st j).2.2.2)
theorem QL.same {X : Nat → Prop} {H H' : Heap} {b : Option Addr} {i n : Nat} {st : Nat → Int × Int × Int × Int} (h : QL H b i n st) (f : Same X H H') (hx : ¬ X i) : QL H' b i n st := by
  intro hn
  obtain ⟨h1, cs, h2, h3⟩ := h hn
  exact ⟨h1, cs, f.at h2 (by simp) hx, h3⟩
theorem ql_of {x : Value} {o : AObj} {i : Nat} (fa : FlatArg (isInt .i64) 4 i x o) : ∃ b n c, ∃ st, x = .slice b n c ∧ ∀ H : Heap, H.get i = o → QL H b i n st := by
  obtain ⟨base, len, cap, cs, rfl, hc, _, hls, hint, hb⟩ := fa
  have num : Value → Int := fun v => match v with | .int _ z => z | _ => 0
  refine ⟨base, len, cap, fun j => ((match cs.getD (j * 4) undef with | .int _ z => z | _ => 0), (match cs.getD (j * 4 + 1) undef with | .int _ z => z | _ => 0), (match cs.getD (j * 4 + 2) undef with | .int _ z => z | _ => 0), (match cs.getD (j * 4 + 3) undef with | .int _ z => z | _ => 0)), rfl, fun H hH hn => ?_⟩
  rcases hb with ⟨_, _, rfl, _⟩ | ⟨rfl, rfl⟩
  · exact absurd rfl hn
  · have he : ∀ m, m < cs.length → ∃ z, z ≤ 9223372036854775807 ∧ cs[m]? = some (iv z) ∧ (match cs.getD m undef with | .int _ z => z | _ => 0) = z := fun m hm => by
      obtain ⟨z, hz, _, hz2⟩ := hint (cs[m]'hm) (List.getElem_mem _)
      have e : cs[m]? = some (iv z) := by rw [List.getElem?_eq_getElem hm, hz]; rfl
      refine ⟨z, hz2, e, ?_⟩
      rw [List.getD_eq_getElem?_getD, e]
      rfl
    refine ⟨rfl, cs, hH, by omega, fun j hj => ?_⟩
    obtain ⟨z0, _, a0, b0⟩ := he (j * 4) (by omega)
    obtain ⟨z1, _, a1, b1⟩ := he (j * 4 + 1) (by omega)
    obtain ⟨z2, _, a2, b2⟩ := he (j * 4 + 2) (by omega)
    obtain ⟨z3, l3, a3, b3⟩ := he (j * 4 + 3) (by omega)
    simp only []
    rw [b0, b1, b2, b3]
    exact ⟨l3, a0, a1, a2, a3⟩
theorem take4 {cs : List Value} {m : Nat} {x0 x1 x2 x3 : Value} (h0 : cs[m]? = some x0) (h1 : cs[m + 1]? = some x1) (h2 : cs[m + 2]? = some x2) (h3 : cs[m + 3]? = some x3) : (cs.drop m).take 4 = [x0, x1, x2, x3] := by
  refine List.ext_getElem? fun i => ?_
  rw [List.getElem?_take, List.getElem?_drop]
  match i with
  | 0 => simpa using h0
  | 1 => simpa using h1
  | 2 => simpa using h2
  | 3 => simpa using h3
  | i + 4 => rw [if_neg (by omega)]; simp
theorem plays_walk (size : Int) (_w : Lit.wf (.int .i64 size) = true) (x : Value) (o : AObj) (fa : FlatArg (isInt .i64) 4 0 x o) : Gives (W.call 5 [.int .i64 size, x] (Heap.empty.push o)) fun o _ => o = .val (.bool true) := by
  clear _w
  obtain ⟨b, len, c, st, rfl, hq⟩ := ql_of fa
  clear fa
  rw [c5, callB, bodyOf]
  by_cases k1 : (60 : Int) < len
  · simp [Try.f5, awake_true, k1]
  by_cases k2 : size < 0
  · simp [Try.f5, awake_true, k1, k2]
  by_cases k3 : 60 < size
  · simp [Try.f5, awake_true, k1, k2, k3]
  obtain ⟨s, rfl⟩ : ∃ v : Nat, size = v := ⟨size.toNat, by omega⟩
  have hq0 := hq (Heap.empty.push o) (Heap.get_push_self Heap.empty _)
  have hn0 : (Heap.empty.push o).n = 1 := rfl
  generalize Heap.empty.push o = H0 at *
  clear hq
  obtain ⟨H1, e1, S1, n1, f1⟩ := snew_run H0 100 (by omega)
  rw [hn0] at e1 S1 n1
  obtain ⟨H2, e2, T2, f2⟩ := new_run S1 (by simp) 20 s (by simp; omega)
  rw [n1] at e2 T2
  generalize hzs : List.replicate 100 (0 : Int) = zs at *
  obtain ⟨H3, e3, R3, f3⟩ := rnew_run H2 s
  have T3 := T2.same0 f3
  have hq3 := ((hq0.same f1 (fun h => h)).same f2 (fun h => h)).same f3 (fun h => h)
  have hn2 : 3 < H2.n := T2.cur.lt
  have hB : Both H3 3 2 1 none 20 s 0 [] zs (H2.n + 1) H2.n [outer] := ⟨T3, R3, ⟨outer, rfl, rfl, rfl, fun j hj => by simp [outer] at hj⟩, fun i hi hm => by
    simp [rowsOf, outer] at hm
    rcases hi with hi | hi | hi | hi
    · omega
    · omega
    · omega
    · cases hi⟩
  generalize hfr : H2.n = fr0 at *
  simp only [ptr_eq, iv_eq] at e1 e2 e3
  rw [show ((100 : Nat) : Int) = 100 by rfl] at e1
  rw [show ((20 : Nat) : Int) = 20 by rfl] at e2
  simp [Try.f5, awake_true, k1, k2, k3, e1, e2, e3]
  clear e1 e2 e3 T2 T3 R3 S1 f1 f2 f3 hq0
  refine loop_wp (fun m r H => ∃ i rf u fms zs fr fs, i + m = len ∧ rd r 9 = iv (i : Nat) ∧ Both H 3 2 1 rf 20 s u fms zs (fr0 + 1) fr fs ∧ QL H b 0 len st ∧ ¬ Foot 3 rf (fr0 + 1) fr fs 0) len
    ⟨0, none, 0, [], zs, fr0, [outer], by omega, by simp, hB, hq3, by simp [Foot, rowsOf, outer]; omega⟩ ?_
  clear hB hq3
  rintro m r H hk ⟨i, rf, u, fms, zs, fr, fs, hi, g9, B, hq, hnf⟩
  have ht : r.length = 54 := hk.1.trans (by simp [len_Bs])
  have hh := hk.all [1, 7, 8] (by decide +kernel)
  simp at hh
  obtain ⟨r1, r7, r8⟩ := hh
  simp only [iv_eq] at g9
  by_cases hm : m = 0
  · subst hm
    simp [ht, r1, r7, r8, g9, show ¬ i < len by omega, awake_true]
  · obtain ⟨rfl, cs, q0, q1, q2⟩ := hq (by omega)
    obtain ⟨q3, q4, q5, q6, q7⟩ := q2 i (by omega)
    obtain ⟨o1, H1, e1, rfl, rf', u', fms', zs', fr', fs', B1, z1, z2, f1, n1⟩ := step_run B (st i).1 (st i).2.1 (st i).2.2.1 (st i).2.2.2 q3
    obtain ⟨o2, H2, e2, rfl, f2⟩ := same_run B1
    have hq2 := (hq.same f1 (fun e => e.elim (by omega) hnf)).same f2 (fun h => h)
    have B2 := B1.same0 f2
    have hHn : 0 < H.n := Nat.lt_of_le_of_lt (Nat.zero_le 3) B.st.cur.lt
    simp only [ptr_eq, iv_eq] at e1 e2 q4 q5 q6 q7
    generalize (st i).1 = s1 at *
    generalize (st i).2.1 = s2 at *
    generalize (st i).2.2.1 = s3 at *
    generalize (st i).2.2.2 = s4 at *
    have hd := take4 q4 q5 q6 q7
    simp [ht, r1, r7, r8, g9, show i < len by omega, q0, hd, show i * 4 + 4 ≤ cs.length by omega, e1, e2, wrap64 ((i : Int) + 1) (by omega) (by omega)]
    refine ⟨m - 1, by omega, i + 1, by omega, by omega, rf', u', fms', zs', fr', fs', B2, hq2, fun e => (n1 0 e).elim hnf (fun h => by omega)⟩
end Go.Vm.StackLaw
