/- What is proved: the semaphores' laws hand back true, whatever the input. -/
import Derived.Test.YtifbhohifhnkiaaSema
namespace Go.Vm.SemaLaw
open Go Go.Proofs
set_option maxRecDepth 100000
set_option linter.unusedSimpArgs false
attribute [local simp] repCells_succ writeAt rd_Fr

theorem c7 (args : List Value) (H : Heap) : W.call 7 args H = callB Try.prog E1 Try.f7 args H := call_B Try.func7 rfl (by decide +kernel) rfl args H
theorem c8 (args : List Value) (H : Heap) : W.call 8 args H = callB Try.prog E1 Try.f8 args H := call_B Try.func8 rfl (by decide +kernel) rfl args H
theorem c9 (args : List Value) (H : Heap) : W.call 9 args H = callB Try.prog E1 Try.f9 args H := call_B Try.func9 rfl (by decide +kernel) rfl args H
theorem c10 (args : List Value) (H : Heap) : W.call 10 args H = callB Try.prog E1 Try.f10 args H := call_B Try.func10 rfl (by decide +kernel) rfl args H
section
variable {H : Heap} {p : Nat} {r : Option Nat} {s : Sm} (h : IsP H p r s)
set_option linter.unusedSectionVars false
include h
theorem value_run : W.call 34 [ptr p] H = some (.val (iv s.value), H) := by
  obtain ⟨⟨v, h1, h2⟩, h3⟩ := h
  rw [c34, callB, bodyOf]
  simp [Try.f34, c55, callB, bodyOf, Try.f55, h65, h1]
theorem first_run : W.call 35 [ptr p] H = some (.val (iv s.first), H) := by
  obtain ⟨⟨v, h1, h2⟩, h3⟩ := h
  rw [c35, callB, bodyOf]
  simp [Try.f35, h1]
theorem ps_run : W.call 36 [ptr p] H = some (.val (iv s.ps), H) := by
  obtain ⟨⟨v, h1, h2⟩, h3⟩ := h
  rw [c36, callB, bodyOf]
  simp [Try.f36, h1]
theorem vs_run : W.call 37 [ptr p] H = some (.val (iv s.vs), H) := by
  obtain ⟨⟨v, h1, h2⟩, h3⟩ := h
  rw [c37, callB, bodyOf]
  simp [Try.f37, h1]
theorem waits_run (hl : s.waits.length ≤ 1000000) : ∃ v H', W.call 38 [ptr p] H = some (.val v, H') ∧ SL H' v s.waits ∧ Same (fun _ => False) H H' := by
  obtain ⟨⟨v, h1, h2⟩, h3⟩ := h
  obtain ⟨o, H', e1, v', rfl, k1, k2⟩ := clone52 h2.sl hl
  refine ⟨v', H', ?_, k1, k2⟩
  rw [c38, callB, bodyOf]
  simp [Try.f38, h1, e1]
end

theorem quiet25 : quiet Try.prog (drawN Try.f25 0) = true := by decide +kernel
theorem ints_true {H : Heap} {v1 v2 : Value} {xs : List Int} (h1 : SL H v1 xs) (h2 : SL H v2 xs) (hl : xs.length ≤ 1000000) : W.call 25 [v1, v2] H = some (.val (.bool true), H) := by
  have key : Gives (W.call 25 [v1, v2] H) fun o H' => o = .val (.bool true) ∧ H' = H := by
    obtain ⟨b1, c1, rfl, g1⟩ := id h1
    obtain ⟨b2, c2, rfl, g2⟩ := id h2
    rw [c25, callB, bodyOf]
    simp [Try.f25]
    refine loop_wp (fun m t H' => H' = H ∧ ∃ i, i + m = xs.length ∧ rd t 5 = .int .i64 i) xs.length ⟨rfl, 0, by omega, by simp⟩ ?_
    rintro m t H' hk ⟨rfl, i, hi, h5⟩
    have ht : t.length = 26 := hk.1.trans (by simp [len_Bs])
    have hh := hk.all [0, 1] (by decide +kernel)
    simp at hh
    obtain ⟨r0, r1⟩ := hh
    by_cases hm : m = 0
    · subst hm
      simp [ht, r0, r1, h5, show ¬ i < xs.length by omega]
    · have hn : i < xs.length := by omega
      rcases g1 with ⟨rfl, h0⟩ | ⟨ra, oa, ow, tl, es, cs, rfl, _⟩
      · rw [h0] at hn; simp at hn
      rcases g2 with ⟨rfl, h0⟩ | ⟨rb, ob, ow2, tl2, es2, cs2, rfl, _⟩
      · rw [h0] at hn; simp at hn
      obtain ⟨_, d1, k1, _, k2⟩ := h1.cell
      obtain ⟨_, d2, k3, _, k4⟩ := h2.cell
      simp [ht, r0, r1, h5, hn]
      refine region_quiet (by exact quiet25) ?_
      simp [ht, r0, r1, h5, hn, k1, k3, k2 i hn, k4 i hn, wrap64 ((i : Int) + 1) (by omega) (by omega)]
      exact ⟨m - 1, by omega, i + 1, by omega, by simp⟩
  obtain ⟨o, H', h, rfl, rfl⟩ := key
  exact h

/-- Both semaphores, of the same, apart; the law's list is as it was. -/
structure Two (H : Heap) (p q : Nat) (r r2 : Option Nat) (s : Sm) (o : AObj) : Prop where
  one : IsP H p r s
  two : IsR H q r2 s
  pq : p ≠ q
  pr : r2 ≠ some p
  qr : r ≠ some q
  rr : ∀ i, r = some i → r2 ≠ some i
  l0 : p ≠ 0 ∧ q ≠ 0 ∧ r ≠ some 0 ∧ r2 ≠ some 0
  lst : H.get 0 = o
theorem IsP.lt {H : Heap} {p : Nat} {r : Option Nat} {s : Sm} (h : IsP H p r s) : p < H.n := by obtain ⟨⟨v, h1, h2⟩, h3⟩ := h; exact Heap.lt_of_get h1 (by simp)
theorem IsR.lt {H : Heap} {p : Nat} {r : Option Nat} {s : Sm} (h : IsR H p r s) : p < H.n := by obtain ⟨⟨v, h1, h2⟩, h3⟩ := h; exact Heap.lt_of_get h1 (by simp)
theorem IsP.rlt {H : Heap} {p : Nat} {r : Option Nat} {s : Sm} (h : IsP H p r s) {i : Nat} (hi : r = some i) : i < H.n := by obtain ⟨⟨v, h1, h2⟩, h3⟩ := h; exact h2.lt hi
theorem IsR.rlt {H : Heap} {p : Nat} {r : Option Nat} {s : Sm} (h : IsR H p r s) {i : Nat} (hi : r = some i) : i < H.n := by obtain ⟨⟨v, h1, h2⟩, h3⟩ := h; exact h2.lt hi
/-- One step of both. -/
theorem Two.step {H H1 H2 : Heap} {p q : Nat} {r r' r2 r2' : Option Nat} {s s' : Sm} {o : AObj} (T : Two H p q r r2 s o) (ho : o ≠ .dead ∨ H1.get 0 = o ∧ H2.get 0 = o) (f1 : Same (fun i => i = p ∨ r = some i) H H1) (n1 : Newer H r r') (g1 : IsP H1 p r' s')
    (f2 : Same (fun i => i = q ∨ r2 = some i) H1 H2) (n2 : Newer H1 r2 r2') (g2 : IsR H2 q r2' s') : Two H2 p q r' r2' s' o := by
  have hp := T.one.lt
  have hq := T.two.lt
  have hn := f1.n
  have a1 : ∀ i, r' = some i → ¬ (i = q ∨ r2 = some i) := fun i hi e => (n1 i hi).elim (fun k => e.elim (fun e => T.qr (by rw [k, e])) (fun e => T.rr i k e)) (fun k => e.elim (fun e => by omega) (fun e => by have := T.two.rlt e; omega))
  refine ⟨g1.same f2 (fun e => e.elim T.pq T.pr) a1, g2, T.pq, fun e => (n2 p e).elim T.pr (fun k => by omega), fun e => a1 q e (.inl rfl), fun i hi hj => (n2 i hj).elim (fun k => a1 i hi (.inr k)) (fun k => by have := g1.rlt hi; omega), ?_, ?_⟩
  · obtain ⟨l1, l2, l3, l4⟩ := T.l0
    exact ⟨l1, l2, fun e => (n1 0 e).elim l3 (fun k => by omega), fun e => (n2 0 e).elim l4 (fun k => by omega)⟩
  · rcases ho with ho | ⟨_, ho⟩
    · obtain ⟨l1, l2, l3, l4⟩ := T.l0
      exact f2.at (f1.at T.lst ho (fun e => e.elim (fun e => l1 e.symm) l3)) ho (fun e => e.elim (fun e => l2 e.symm) l4)
    · exact ho

theorem p_bad {H : Heap} {p : Nat} {r : Option Nat} {s : Sm} (h : IsP H p r s) (pid : Int) (hp : pid < 1) : W.call 30 [ptr p, iv pid] H = some (.val (.bool false), H) := by
  obtain ⟨⟨v, h1, h2⟩, h3⟩ := h
  rw [c30, callB, bodyOf]
  simp [Try.f30, hp]
theorem plan11 : planOf Try.prog (drawN Try.f7 0) = some [none, none, none, none, none, none, some (0, 1), some (0, 1), some (0, 1), some (0, 1), some (0, 1), none, none] := by decide +kernel
theorem plan15 : planOf Try.prog (drawN Try.f7 1) = some [none, none, (some (0, 1)), (some (0, 1)), (some (0, 1)), (some (0, 1)), none, none, none, none, (some (1, 1)), (some (1, 1)), (some (1, 1)), (some (1, 1)), none, none, none, none, none, (some (2, 1)), (some (2, 1)), (some (2, 1)), (some (2, 1)), none, none, none, none, none, (some (3, 1)), (some (3, 1)), (some (3, 1)), (some (3, 1)), none, none, none, none, none, (some (4, 1)), (some (4, 1)), (some (4, 1)), (some (4, 1)), none, none, none] := by decide +kernel

/-- The comparison behind a step. -/
theorem reg15 {H : Heap} {p q : Nat} {r r2 : Option Nat} {s : Sm} {o : AObj} (T : Two H p q r r2 s o) (ho : o ≠ .dead) (hl : s.waits.length ≤ 1000000) (t : List Value) (ht : t.length = 120) (h5 : rd t 5 = ptr p) (h7 : rd t 7 = ptr q) (rid : Nat) :
    Ends (W.code (.region rid ⟨drawN Try.f7 1⟩ true) ⟨Fr t [], []⟩ H) fun e s' H' => e = .normal ∧ (∃ l, s' = ⟨Fr t l, []⟩ ∧ look t 118 l = .bool false ∧ look t 9 l = rd t 9 ∧ look t 5 l = rd t 5 ∧ look t 7 l = rd t 7 ∧ look t 1 l = rd t 1) ∧ Two H' p q r r2 s o := by
  have e1 := value_run T.one
  have e2 := first_run T.one
  have e3 := ps_run T.one
  have e4 := vs_run T.one
  obtain ⟨v, H1, e5, k1, k2⟩ := waits_run T.one hl
  have T1 : Two H1 p q r r2 s o := by
    refine ⟨T.one.same k2 (fun h => h) (fun _ _ h => h), T.two.same k2 (fun h => h) (fun _ _ h => h), T.pq, T.pr, T.qr, T.rr, T.l0, k2.at T.lst ho (fun h => h)⟩
  obtain ⟨⟨v2, g1, g2⟩, g3⟩ := id T.two
  obtain ⟨⟨v3, g4, g5⟩, g6⟩ := id T1.two
  have hv : v3 = v2 := by
    have := k2.at g1 (by simp) (fun h => h)
    rw [g4] at this
    simpa using this
  subst hv
  have e6 := ints_true k1 g5.sl hl
  refine region_plan (by exact plan15) ?_
  simp only [ptr_eq, iv_eq] at h5 h7 e1 e2 e3 e4 e5 g1 g4
  simp [drawN, Try.f7, drawsOf, ht, h5, h7, e1, e2, e3, e4, e5, e6, g1, g4]
  exact ⟨⟨_, rfl, by simp, by simp, by simp [h5], by simp [h7], by simp⟩, T1⟩

theorem plan_step {H : Heap} {p q : Nat} {r r2 : Option Nat} {s : Sm} {k : Nat} {o : AObj} (T : Two H p q r r2 s o) (ho : o ≠ .dead) (hk : s.ok k) (hk2 : k ≤ 1000) (z : Int) :
    ∃ b H1 H2 r' r2', W.call 30 [.pointer (some ⟨p, 0, none⟩), .int .i64 z] H = some (.val (.bool b), H1) ∧ W.call 31 [.pointer (some ⟨q, 0, none⟩), .int .i64 z] H1 = some (.val (.bool b), H2) ∧ Two H2 p q r' r2' (s.p z).2 o ∧ H1.get 0 = o := by
  obtain ⟨o1, H1, e1, rfl, r', g1, f1, n1⟩ := p_run T.one hk hk2 z
  have hn := f1.n
  have T2 : IsR H1 q r2 s := T.two.same f1 (fun e => e.elim (fun e => T.pq e.symm) T.qr) (fun i hi e => e.elim (fun e => T.pr (by rw [hi, e])) (fun e => T.rr i e hi))
  obtain ⟨o2, H2, e2, rfl, r2', g2, f2, n2⟩ := rp_run T2 hk hk2 z
  obtain ⟨l1, l2, l3, l4⟩ := T.l0
  exact ⟨_, H1, H2, r', r2', e1, e2, T.step (.inl ho) f1 n1 g1 f2 n2 g2, f1.at T.lst ho (fun e => e.elim (fun e => l1 e.symm) l3)⟩
theorem vlan_step {H : Heap} {p q : Nat} {r r2 : Option Nat} {s : Sm} {k : Nat} {o : AObj} (T : Two H p q r r2 s o) (ho : o ≠ .dead) (hk : s.ok k) (hk2 : k ≤ 1000) :
    ∃ z H1 H2 r' r2', W.call 32 [.pointer (some ⟨p, 0, none⟩)] H = some (.val (.int .i64 z), H1) ∧ W.call 33 [.pointer (some ⟨q, 0, none⟩)] H1 = some (.val (.int .i64 z), H2) ∧ Two H2 p q r' r2' s.v.2 o := by
  obtain ⟨o1, H1, e1, rfl, r', g1, f1, n1⟩ := v_run T.one hk hk2
  have hn := f1.n
  have T2 : IsR H1 q r2 s := T.two.same f1 (fun e => e.elim (fun e => T.pq e.symm) T.qr) (fun i hi e => e.elim (fun e => T.pr (by rw [hi, e])) (fun e => T.rr i e hi))
  obtain ⟨o2, H2, e2, rfl, r2', g2, f2, n2⟩ := rv_run T2 hk hk2
  exact ⟨_, H1, H2, r', r2', e1, e2, T.step (.inl ho) f1 n1 g1 f2 n2 g2⟩

theorem plays_loop {p q : Nat} (len cap : Nat) (hl : len ≤ 120) (hc : len ≤ cap) (ls : List Value) (hls : ls.length = cap) (hint : ∀ c ∈ ls, isInt .i64 c) (t0 : List Value) (ht0 : t0.length = 120)
    (h1 : rd t0 1 = .slice (some ⟨0, 0, none⟩) len cap) (h5 : rd t0 5 = ptr p) (h7 : rd t0 7 = ptr q) (h9 : rd t0 9 = .int .i64 0) (H0 : Heap) (s0 : Sm) (hs0 : s0.ok 0) (T0 : Two H0 p q none none s0 (.row false 0 0 ls)) {Q : QA}
    (hQ : ∀ t l H, t.length = 120 → Q (.exit 0) ⟨Fr t l, []⟩ H) :
    Ends (W.code (.loop (loopN Try.f7 0)) ⟨t0, []⟩ H0) Q := by
  refine loop_wp (fun m t H => ∃ i r r2 s, i + m = len ∧ rd t 9 = .int .i64 (i : Nat) ∧ s.ok i ∧ Two H p q r r2 s (.row false 0 0 ls)) len ⟨0, none, none, s0, by omega, by simpa using h9, hs0, T0⟩ ?_
  rintro m t H hk ⟨i, r, r2, s, hi, g9, hs, T⟩
  have ht : t.length = 120 := hk.1.trans ht0
  have hh := hk.all [1, 5, 7] (by decide +kernel)
  simp [h1, h5, h7] at hh
  obtain ⟨g1, g5, g7⟩ := hh
  by_cases hm : m = 0
  · subst hm
    simp [loopN, Try.f7, loopsOf, ht, g1, g7, g9, show ¬ i < len by omega]
    exact hQ _ _ _ ht
  · obtain ⟨z, hz, _⟩ := hint (ls[i]'(by omega)) (List.getElem_mem _)
    have hz' : ls[i]? = some (.int .i64 z) := by rw [List.getElem?_eq_getElem (by omega), hz]
    have hlst := T.lst
    -- the comparison, and on
    have fin : ∀ (l : List (Nat × Value)) (H' : Heap) (r' r2' : Option Nat) (s' : Sm) (k : List Nat), look t 5 l = ptr p → look t 7 l = ptr q → look t 9 l = .int .i64 i → s'.ok (i + 1) → Two H' p q r' r2' s' (.row false 0 0 ls) →
        Ends (W.code (.region 15 ⟨drawN Try.f7 1⟩ true) ⟨Fr t l, []⟩ H') fun e s2 H2 => e = .normal ∧ ∃ t2 l2 r3 r4, s2 = ⟨Fr t2 l2, []⟩ ∧ t2.length = 120 ∧ look t2 118 l2 = .bool false ∧ look t2 9 l2 = .int .i64 i ∧ Two H2 p q r3 r4 s' (.row false 0 0 ls) := by
      intro l H' r' r2' s' _ a5 a7 a9 hs' T'
      have := reg15 T' (by simp) (by have := hs'.w; omega) (Fr t l) (by simp [ht]) (by simpa [ht] using a5) (by simpa [ht] using a7) 15
      rw [Fr_nil] at this
      refine this.mono ?_
      rintro e s2 H2 ⟨rfl, ⟨l2, rfl, b1, b2, _⟩, T2⟩
      exact ⟨rfl, Fr t l, l2, r', r2', rfl, by simp [ht], b1, by rw [b2]; simpa [ht] using a9, T2⟩
    by_cases c : 0 < z
    · obtain ⟨b, H1, H2, r', r2', e1, e2, T2, l1⟩ := plan_step T (by simp) hs (by omega) z
      simp [loopN, Try.f7, loopsOf, ht, g1, g5, g7, g9, show i < len by omega, hlst, hz', c]
      refine region_plan (by exact plan11) ?_
      simp [ht, g1, g5, g7, g9, show i < len by omega, hlst, hz', e1, e2, l1]
      refine (fin _ H2 r' r2' _ [] (by simp [g5]) (by simp [g7]) (by simp [g9]) (hs.p z) T2).mono ?_
      rintro e s2 H3 ⟨rfl, t2, l2, r3, r4, rfl, ht2, b1, b2, T3⟩
      simp [ht2, b1, b2, wrap64 ((i : Int) + 1) (by omega) (by omega)]
      exact ⟨m - 1, by omega, i + 1, by omega, by simp, r3, r4, _, hs.p z, T3⟩
    · have e0 := p_bad T.one z (by omega)
      obtain ⟨z', H1, H2, r', r2', e1, e2, T2⟩ := vlan_step T (by simp) hs (by omega)
      simp only [ptr_eq, iv_eq] at e0
      simp [loopN, Try.f7, loopsOf, ht, g1, g5, g7, g9, show i < len by omega, hlst, hz', c, e0, e1, e2]
      refine (fin _ H2 r' r2' _ [] (by simp [g5]) (by simp [g7]) (by simp [g9]) hs.v T2).mono ?_
      rintro e s2 H3 ⟨rfl, t2, l2, r3, r4, rfl, ht2, b1, b2, T3⟩
      simp [ht2, b1, b2, wrap64 ((i : Int) + 1) (by omega) (by omega)]
      exact ⟨m - 1, by omega, i + 1, by omega, by simp, r3, r4, _, hs.v, T3⟩

theorem two_new {H H1 H2 : Heap} {s : Sm} {o : AObj} (h0 : 0 < H.n) (hg : H.get 0 = o) (ho : o ≠ .dead) (g1 : IsP H1 H.n none s) (f1 : Same (fun _ => False) H H1) (g2 : IsR H2 H1.n none s) (f2 : Same (fun _ => False) H1 H2) : Two H2 H.n H1.n none none s o := by
  have h1 := g1.lt
  exact ⟨g1.same f2 (fun h => h) (fun _ h => by cases h), g2, by omega, by simp, by simp, by simp, by simp; omega, f2.at (f1.at hg ho (fun h => h)) ho (fun h => h)⟩
theorem plays_walk (n : Int) (_ : Lit.wf (.int .i64 n) = true) (x : Value) (o : AObj) (fa : FlatArg (isInt .i64) 1 0 x o) : Gives (W.call 7 [.int .i64 n, x] (Heap.empty.push o)) fun o _ => o = .val (.bool true) := by
  obtain ⟨base, len, cap, ls, rfl, hc, _, hls, hint, hb⟩ := fa
  rw [c7, callB, bodyOf]
  by_cases c0 : (120 : Int) < len
  · simp [Try.f7, awake_true, c0]
  by_cases c1 : n < 0 ∨ 1000 < n
  · simp [Try.f7, awake_true, c0, new_bad _ n c1, rnew_bad _ n c1]
    rw [code_loop]
    by_cases hl : len = 0
    · subst hl; simp [awake_true]
    · simp [awake_true, show 0 < len by omega]
  · obtain ⟨o1, H1, e1, rfl, g1, f1⟩ := new_ok (Heap.empty.push o) n c1 trivial
    obtain ⟨o2, H2, e2, rfl, g2, f2⟩ := rnew_ok H1 n c1 trivial
    simp only [ptr_eq] at e1 e2
    simp [Try.f7, awake_true, c0, e1, e2]
    rcases hb with ⟨rfl, rfl, rfl, rfl⟩ | ⟨rfl, rfl⟩
    · rw [code_loop]
      simp [awake_true]
    · refine plays_loop len cap (by omega) hc ls (by omega) hint _ (by simp [len_Bs]) (by simp) (by simp) (by simp) (by simp) _ ⟨n, n, 0, 0, []⟩ ?_ (two_new (by simp) (by exact Heap.get_push_self Heap.empty _) (by simp) g1 f1 g2 f2) ?_
      · constructor <;> simp <;> omega
      · intro t l H ht
        simp [ht, awake_true]
end Go.Vm.SemaLaw
