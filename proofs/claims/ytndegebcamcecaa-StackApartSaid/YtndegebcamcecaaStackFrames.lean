/- What is proved: 'signalboxlaw4.StackFrames' hands back true, whatever the input. -/
import Derived.Test.YtndegebcamcecaaStackCall3
namespace Go.Vm.StackLaw
open Go Go.Proofs
set_option maxRecDepth 100000
set_option linter.unusedSimpArgs false
attribute [local simp] repCells_succ writeAt rd_Fr
/-- A list of the law's input: its base, its row, its numbers. -/
def RL (H : Heap) (b : Option Addr) (i : Nat) (xs : List Int) : Prop := xs ≠ [] → b = some ⟨i, 0, none⟩ ∧ ∃ cs, H.get i = .row false 0 0 cs ∧ ∀ j, j < xs.length → cs[j]? = some (iv (xs.getD j 0))
theorem RL.same {X : Nat → Prop} {H H' : Heap} {b : Option Addr} {i : Nat} {xs : List Int} (h : RL H b i xs) (f : Same X H H') (hx : ¬ X i) : RL H' b i xs := by
  intro hn
  obtain ⟨h1, cs, h2, h3⟩ := h hn
  exact ⟨h1, cs, f.at h2 (by simp) hx, h3⟩
theorem RL.at {H : Heap} {b : Option Addr} {i : Nat} {xs : List Int} (h : RL H b i xs) {j : Nat} (hj : j < xs.length) : b = some ⟨i, 0, none⟩ ∧ ∃ cs, H.get i = .row false 0 0 cs ∧ cs[j]? = some (iv (xs.getD j 0)) := by
  obtain ⟨h1, cs, h2, h3⟩ := h (by intro e; rw [e] at hj; simp at hj)
  exact ⟨h1, cs, h2, h3 j hj⟩
theorem rl_of {x : Value} {o : AObj} {i : Nat} (fa : FlatArg (isInt .i64) 1 i x o) : ∃ b c, ∃ xs : List Int, x = .slice b xs.length c ∧ ∀ H : Heap, H.get i = o → RL H b i xs := by
  obtain ⟨base, len, cap, cs, rfl, hc, _, hls, hint, hb⟩ := fa
  have he : ∀ j, j < len → ∃ z, cs[j]? = some (iv z) := fun j hj => by
    obtain ⟨z, hz, _⟩ := hint (cs[j]'(by omega)) (List.getElem_mem _)
    exact ⟨z, by rw [List.getElem?_eq_getElem (by omega), hz]; rfl⟩
  refine ⟨base, cap, (cs.take len).map (fun v => match v with | .int _ z => z | _ => 0), by congr 1; simp; omega, fun H hH => ?_⟩
  intro hn
  rcases hb with ⟨_, _, rfl, _⟩ | ⟨rfl, rfl⟩
  · simp at hn
  · refine ⟨rfl, cs, hH, fun j hj => ?_⟩
    simp at hj
    obtain ⟨z, hz⟩ := he j (by omega)
    rw [hz, List.getD_eq_getElem?_getD, List.getElem?_map, List.getElem?_take, if_pos (by omega), hz]
    rfl
theorem frames_walk (x0 : Value) (o0 : AObj) (fa0 : FlatArg (isInt .i64) 1 0 x0 o0) (params : Int) (_w1 : Lit.wf (.int .i64 params) = true) (locals : Int) (_w2 : Lit.wf (.int .i64 locals) = true) (x3 : Value) (o3 : AObj) (fa3 : FlatArg (isInt .i64) 1 1 x3 o3)
    (back : Int) (_w4 : Lit.wf (.int .i64 back) = true) : Gives (W.call 4 [x0, .int .i64 params, .int .i64 locals, x3, .int .i64 back] ((Heap.empty.push o0).push o3)) fun o _ => o = .val (.bool true) := by
  clear _w1 _w2 _w4
  obtain ⟨b0, c0, xs, rfl, hx⟩ := rl_of fa0
  obtain ⟨b3, c3, ys, rfl, hy⟩ := rl_of fa3
  clear fa0 fa3
  rw [c4, callB, bodyOf]
  by_cases k1 : (20 : Int) < xs.length
  · simp [Try.f4, awake_true, k1]
  by_cases k2 : (20 : Int) < ys.length
  · simp [Try.f4, awake_true, k1, k2]
  by_cases k3 : params < 0
  · simp [Try.f4, awake_true, k1, k2, k3]
  by_cases k4 : (xs.length : Int) < params
  · simp [Try.f4, awake_true, k1, k2, k3, k4]
  by_cases k5 : locals < params
  · simp [Try.f4, awake_true, k1, k2, k3, k4, k5]
  by_cases k6 : 20 < locals
  · simp [Try.f4, awake_true, k1, k2, k3, k4, k5, k6]
  obtain ⟨p, rfl⟩ : ∃ v : Nat, params = v := ⟨params.toNat, by omega⟩
  obtain ⟨n, hn⟩ : ∃ v : Nat, locals = (p + v : Nat) := ⟨(locals - p).toNat, by omega⟩
  have hx0 := hx ((Heap.empty.push o0).push o3) (by rw [Heap.get_push, if_neg (by simp [Heap.empty])]; exact Heap.get_push_self Heap.empty _)
  have hy0 := hy ((Heap.empty.push o0).push o3) (Heap.get_push_self (Heap.empty.push o0) _)
  have hn0 : ((Heap.empty.push o0).push o3).n = 2 := rfl
  generalize (Heap.empty.push o0).push o3 = H0 at *
  clear hx hy
  obtain ⟨H1, e1, S1, n1, f1⟩ := snew_run H0 200 (by omega)
  rw [hn0] at e1 S1 n1
  obtain ⟨H2, e2, T2, f2⟩ := new_run S1 (by simp) 0 100 (by simp)
  rw [n1] at e2 T2
  generalize hzs : List.replicate 200 (0 : Int) = zs at *
  have hz0 : zs.length = 200 := by rw [← hzs]; simp
  clear hzs S1
  have hx2 := (hx0.same f1 (fun h => h)).same f2 (fun h => h)
  have hy2 := (hy0.same f1 (fun h => h)).same f2 (fun h => h)
  clear hx0 hy0 f1 f2
  simp only [ptr_eq, iv_eq] at e1 e2
  rw [show ((200 : Nat) : Int) = 200 by rfl] at e1
  rw [show ((0 : Nat) : Int) = 0 by rfl, show ((100 : Nat) : Int) = 100 by rfl] at e2
  simp [Try.f4, awake_true, k1, k2, k3, k4, k5, k6, e1, e2]
  clear e1 e2
  refine loop_wp (fun m t H => ∃ i zs, i + m = xs.length ∧ rd t 14 = iv (i : Nat) ∧ St H 4 3 2 none 0 100 i [] zs ∧ zs.length = 200 ∧ (∀ j, j < i → zs.getD j 0 = xs.getD j 0) ∧ RL H b0 0 xs ∧ RL H b3 1 ys) xs.length ⟨0, zs, by omega, by simp, T2, hz0, by omega, hx2, hy2⟩ ?_
  clear T2 hx2 hy2 hz0
  clear zs
  rintro m t H hk ⟨i, zs, hi, g14, T, hz, hj, hx, hy⟩
  have ht : t.length = 205 := hk.1.trans (by simp [len_Bs])
  have hh := hk.all [0, 1, 2, 3, 4, 13] (by decide +kernel)
  clear hk
  simp at hh
  obtain ⟨r0, r1, r2, r3, r4, r13⟩ := hh
  simp only [iv_eq] at g14
  by_cases hm : m = 0
  · subst hm
    obtain rfl : i = xs.length := by omega
    subst hn
    obtain ⟨o, H3, e3, rfl, rf, zs1, T3, C3, f3, n3⟩ := call_run T back p n (by simp [opn]; omega) (by simp) (by omega) (by omega)
    rw [Int.natCast_add p n] at T3
    have hx3 := hx.same f3 (by simp)
    have hy3 := hy.same f3 (by simp)
    have nr : ∀ i, i ≤ 4 → rf ≠ some i := fun i hi e => (n3 i e).elim (fun h => by cases h) (fun h => by have := T.cur.lt; omega)
    obtain ⟨H4, e4, T4, f4⟩ := T3.opn
    have hx4 := hx3.same f4 (fun h => h)
    have hy4 := hy3.same f4 (fun h => h)
    have e5 := frames_run T4.cur
    have e6 := len_run T4.cur
    simp only [ptr_eq, iv_eq, List.length_cons, List.length_nil] at e3 e4 e5 e6
    rw [show opn (xs.length + n + 2) (((xs.length - p : Nat), (p : Int) + n, back) :: []) = 0 by simp [opn]; omega] at e4
    simp only [Int.natCast_add] at e3
    simp [ht, r0, r1, r2, r3, r4, r13, g14, e3, e4, e5, e6, awake_true, wrap64 ((xs.length : Int) + 2) (by omega) (by omega), wrap64 ((xs.length : Int) + 2 + (p + n)) (by omega) (by omega), wrap64 ((xs.length : Int) + n + 2) (by omega) (by omega), show (xs.length : Int) + 2 + (p + n) - p = xs.length + n + 2 by omega]
    refine loop_wp (fun m t H => ∃ i, i + m = p + n ∧ rd t 15 = iv (i : Nat) ∧ St H 4 3 2 rf 0 100 (xs.length + n + 2) [((xs.length - p : Nat), (p : Int) + n, back)] zs1 ∧ RL H b0 0 xs ∧ RL H b3 1 ys) (p + n) ⟨0, by omega, by simp [ht], T4, hx4, hy4⟩ ?_
    clear T T3 T4 hx hx3 hx4 hy hy3 hy4 e3 e4 e5 e6 f3 f4 n3
    rintro m t2 H hk ⟨i, hi, g15, T, hx, hy⟩
    have ht2 : t2.length = 205 := hk.1.trans (by simp [ht])
    have hh := hk.all [0, 1, 2, 3, 4, 13] (by decide +kernel)
    clear hk
    simp [ht, r0, r1, r2, r3, r4, r13] at hh
    clear ht r0 r1 r2 r3 r4 r13 g14
    obtain ⟨r0, r1, r2, r3, r4, r13⟩ := hh
    rename t2.length = 205 => ht
    simp only [iv_eq] at g15
    by_cases hm : m = 0
    · subst hm
      obtain rfl : i = p + n := by omega
      simp [ht, r0, r1, r2, r3, r4, r13, g15, awake_true]
      have hw : ∀ j, j < xs.length - p → zs1.getD j 0 = xs.getD j 0 := fun j hj2 => by
        rw [C3.2 j, if_neg (by omega), if_neg (by omega), if_neg (by omega)]
        exact hj j (by omega)
      refine loop_wp (fun m t H => ∃ i zs2, i + m = ys.length ∧ rd t 19 = iv (i : Nat) ∧ St H 4 3 2 rf 0 100 (xs.length + n + 2 + i) [((xs.length - p : Nat), (p : Int) + n, back)] zs2 ∧ (∀ j, j < xs.length - p → zs2.getD j 0 = xs.getD j 0) ∧ RL H b0 0 xs ∧ RL H b3 1 ys) ys.length ⟨0, zs1, by omega, by simp [ht], T, hw, hx, hy⟩ ?_
      clear T hx hy hw hj g15
      rintro m t3 H hk ⟨i, zs2, hi, g19, T, hw, hx, hy⟩
      have ht3 : t3.length = 205 := hk.1.trans (by simp [ht])
      have hh := hk.all [0, 1, 2, 3, 4, 13] (by decide +kernel)
      clear hk
      simp [ht, r0, r1, r2, r3, r4, r13] at hh
      clear ht r0 r1 r2 r3 r4 r13
      obtain ⟨r0, r1, r2, r3, r4, r13⟩ := hh
      rename t3.length = 205 => ht
      simp only [iv_eq] at g19
      by_cases hm : m = 0
      · subst hm
        obtain rfl : i = ys.length := by omega
        obtain ⟨H3, e3, T3, f3⟩ := ret_run T rfl (by simp only []; omega)
        rw [show (((xs.length - p : Nat) : Int)).toNat = xs.length - p by omega] at T3
        obtain ⟨H4, e4, T4, f4⟩ := T3.opn
        have hx4 := (hx.same f3 (by simp)).same f4 (fun h => h)
        have e5 := frames_run T4.cur
        have e6 := len_run T4.cur
        simp only [ptr_eq, iv_eq, List.length_nil, opn] at e3 e4 e5 e6
        rw [show ((xs.length - p : Nat) : Int) = (xs.length : Int) - p by omega] at e4 e6
        simp [ht, r0, r1, r2, r3, r4, r13, g19, awake_true, e3, e4, e5, e6, wrap64 ((xs.length : Int) - p) (by omega) (by omega), wrap64 ((xs.length : Int) - p - 1) (by omega) (by omega)]
        refine loop_wp (fun m t H => rd t 22 = iv ((m : Int) - 1) ∧ m ≤ xs.length - p ∧ St H 4 3 2 rf 0 100 m [] zs2 ∧ RL H b0 0 xs) (xs.length - p) ⟨by simp [ht]; omega, by omega, T4, hx4⟩ ?_
        clear T T3 T4 hx hx4 hy e3 e4 e5 e6 f3 f4 g19
        rintro m t4 H hk ⟨g22, hm, T, hx⟩
        have ht4 : t4.length = 205 := hk.1.trans (by simp [ht])
        have hh := hk.all [0, 13] (by decide +kernel)
        clear hk
        simp [ht, r0, r13] at hh
        obtain ⟨u0, u13⟩ := hh
        simp only [iv_eq] at g22
        by_cases h0 : m = 0
        · subst h0
          simp [ht4, u0, u13, g22, awake_true]
        · obtain ⟨H5, e5, T5, f5⟩ := pop_run T (by simp [opn]; omega) (by omega)
          obtain ⟨rfl, cs, q1, q2⟩ := (hx.same f5 (by decide)).at (show m - 1 < xs.length by omega)
          have hx5 := hx.same f5 (by decide)
          rw [Nat.zero_add, hw (m - 1) (by omega)] at e5
          generalize hxi : xs.getD (m - 1) 0 = xi at *
          simp only [ptr_eq, iv_eq] at e5 q2
          simp [ht4, u0, u13, g22, e5, q1, q2, show (1 : Int) ≤ m by omega, show 1 ≤ m by omega, show ¬ m = 0 by omega, wrap64 ((m : Int) - 1 - 1) (by omega) (by omega), show ((m : Int) - 1).toNat = m - 1 by omega, show (m : Int) - 1 < xs.length by omega]
          exact ⟨m - 1, by omega, by omega, by omega, T5, hx5⟩
      · obtain ⟨rfl, cs, q1, q2⟩ := hy.at (show i < ys.length by omega)
        obtain ⟨H3, e5, T3, f3⟩ := push_run T (by omega) (ys.getD i 0)
        have hx3 := hx.same f3 (by simp)
        have hy3 := hy.same f3 (by simp)
        generalize hxi : ys.getD i 0 = xi at *
        simp only [ptr_eq, iv_eq] at e5 q2
        simp [ht, r0, r1, r2, r3, r4, r13, g19, show i < ys.length by omega, q1, q2, e5, wrap64 ((i : Int) + 1) (by omega) (by omega)]
        refine ⟨m - 1, by omega, i + 1, by omega, by omega, _, T3, fun j hj => ?_, hx3, hy3⟩
        change (zs2.set (0 + (xs.length + n + 2 + i)) xi).getD j 0 = xs.getD j 0
        rw [getD_set _ _ _ _ (by have := T.fit; omega), if_neg (by omega)]
        exact hw j hj
    · obtain ⟨H3, e3, T3, f3⟩ := local_run T i (by omega) (by simp [nloc]; omega) (by simp [opn]; omega)
      have hx3 := hx.same f3 (fun h => h)
      have hy3 := hy.same f3 (fun h => h)
      have hw := C3.2 (0 + (xs.length - p + i))
      rw [if_neg (by omega), if_neg (by omega)] at hw
      simp only [fbase] at e3
      rw [show (((xs.length - p : Nat) : Int) + (i : Int)).toNat = xs.length - p + i by omega] at e3
      simp only [ptr_eq, iv_eq] at e3
      by_cases c1 : i < p
      · rw [if_neg (by omega), hj _ (by omega), Nat.zero_add] at hw
        rw [Nat.zero_add, hw] at e3
        obtain ⟨rfl, cs, q1, q2⟩ := hx3.at (show xs.length - p + i < xs.length by omega)
        generalize hxi : xs.getD (xs.length - p + i) 0 = xi at *
        simp only [iv_eq] at q2
        simp [ht, r0, r1, r2, r3, r4, r13, g15, show (i : Int) < p + n by omega, show i < p by omega, q1, q2, e3, wrap64 ((i : Int) + 1) (by omega) (by omega), wrap64 ((xs.length : Int) - p) (by omega) (by omega), wrap64 ((xs.length : Int) - p + i) (by omega) (by omega), show ((xs.length : Int) - p + i).toNat = xs.length - p + i by omega, show (0 : Int) ≤ (xs.length : Int) - p + i by omega, show (xs.length : Int) - p + i < xs.length by omega]
        exact ⟨m - 1, by omega, i + 1, by omega, by omega, T3, hx3, hy3⟩
      · rw [if_pos (by omega), Nat.zero_add] at hw
        rw [Nat.zero_add, hw] at e3
        simp [ht, r0, r1, r2, r3, r4, r13, g15, show (i : Int) < p + n by omega, show ¬ i < p by omega, e3, wrap64 ((i : Int) + 1) (by omega) (by omega)]
        exact ⟨m - 1, by omega, i + 1, by omega, by omega, T3, hx3, hy3⟩
  · obtain ⟨rfl, cs, q1, q2⟩ := hx.at (show i < xs.length by omega)
    obtain ⟨H3, e5, T3, f3⟩ := push_run T (by omega) (xs.getD i 0)
    have hx3 := hx.same f3 (by simp)
    have hy3 := hy.same f3 (by simp)
    generalize hxi : xs.getD i 0 = xi at *
    simp only [ptr_eq, iv_eq] at e5 q2
    simp [ht, r0, r1, r2, r3, r4, r13, g14, show i < xs.length by omega, q1, q2, e5, wrap64 ((i : Int) + 1) (by omega) (by omega)]
    refine ⟨m - 1, by omega, i + 1, by omega, by omega, _, T3, by simpa using hz, fun j hji => ?_, hx3, hy3⟩
    change (zs.set (0 + i) xi).getD j 0 = xs.getD j 0
    rw [getD_set _ _ _ _ (by omega)]
    by_cases c : j = 0 + i
    · rw [if_pos c, c, Nat.zero_add, hxi]
    · rw [if_neg c]; exact hj j (by omega)
end Go.Vm.StackLaw
