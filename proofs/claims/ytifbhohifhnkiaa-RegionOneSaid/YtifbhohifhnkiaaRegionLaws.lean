/- What is proved: three of the regions' laws hand back true, whatever the input. -/
import Derived.Test.YtifbhohifhnkiaaRegion2
namespace Go.Vm.RegionLaw
open Go Go.Proofs
set_option maxRecDepth 100000
set_option linter.unusedSimpArgs false
attribute [local simp] repCells_succ writeAt rd_Fr

theorem bi_max {P : Program} (ts : List TypeId) (k : IntKind) (a b : Int) (H : Heap) : exBuiltin P .max ts [.int k a, .int k b] H = some (.val (.int k (if b > a then b else a)), H) := by
  simp [exBuiltin, groundL, Builtin.max_, Builtin.max2]
theorem nothing_walk (a : Int) (_ : Lit.wf (.int .i64 a) = true) (b : Int) (_ : Lit.wf (.int .i64 b) = true) : Gives (W.call 14 [.int .i64 a, .int .i64 b] Heap.empty) fun o _ => o = .val (.bool true) := by
  have q47 : ∀ H, W.call 47 [.pointer none] H = some (.val (.int .i64 0), H) := by intro H; rw [c47, callB, bodyOf]; simp [Try.f47]
  have q59 : ∀ H, W.call 59 [.pointer none, .int .i64 a] H = some (.val (.bool false), H) := by
    intro H; rw [c59, callB, bodyOf]
    by_cases c : 0 < a
    · simp [Try.f59, c, q47, show ¬ (0 : Int) = a by omega]
    · simp [Try.f59, c]
  have q43 : ∀ H, W.call 43 [.pointer none, .int .i64 a] H = some (.val (.tuple #[.int .i64 0, .bool false]), H) := by intro H; rw [c43, callB, bodyOf]; simp [Try.f43, q59]
  have q45 : ∀ H, W.call 45 [.pointer none, .int .i64 a] H = some (.val (.tuple #[.int .i64 0, .bool false]), H) := by intro H; rw [c45, callB, bodyOf]; simp [Try.f45, q59]
  have q41 : ∀ H, W.call 41 [.pointer none, .int .i64 a] H = some (.val (.bool false), H) := by intro H; rw [c41, callB, bodyOf]; simp [Try.f41]
  have q48 : ∀ H, W.call 48 [.pointer none] H = some (.val (.slice none 0 0), H) := by intro H; rw [c48, callB, bodyOf]; simp [Try.f48]
  have q49 : ∀ H, W.call 49 [.pointer none] H = some (.val (.slice none 0 0), H) := by intro H; rw [c49, callB, bodyOf]; simp [Try.f49]
  obtain ⟨o1, H1, e1, rfl, g1, f1⟩ := new_ok Heap.empty
  obtain ⟨o2, H2, e2, rfl, r1, r2, g2, f2, n2⟩ := enter_run g1 (by simp [Rg.size]) a
  simp only [ptr_eq, iv_eq] at e1 e2
  have he : (Rg.enter ⟨0, [], []⟩ a) = (decide (0 < a), ⟨if 0 < a then a else 0, [], []⟩) := by
    unfold Rg.enter
    by_cases c : a < 1
    · simp [c, show ¬ 0 < a by omega]
    · simp [c, show 0 < a by omega]
  rw [he] at e2 g2
  simp only at e2 g2
  -- the end
  obtain ⟨v3, H3, e3, k3, f3⟩ := waits_run g2 (by simp [Rg.size])
  have g3 := g2.same f3 (fun _ _ h => h)
  obtain ⟨v4, H4, e4, k4, f4⟩ := entry_run g3 (by simp [Rg.size])
  obtain ⟨b3, c3, rfl, _⟩ := id k3
  obtain ⟨b4, c4, rfl, _⟩ := id k4
  have w1 := occ_run g2
  simp only [ptr_eq, iv_eq] at w1 e3 e4
  have hm : ∀ H, exBuiltin Try.prog .max [3, 3] [.int .i64 a, .int .i64 0] H = some (.val (.int .i64 (if 0 < a then a else 0)), H) := by
    intro H; rw [bi_max]
    by_cases c : 0 < a
    · simp [c, show ¬ 0 > a by omega]
    · by_cases c2 : 0 > a
      · simp [c, c2]
      · simp [c, c2]; omega
  rw [c14, callB, bodyOf]
  by_cases hab : a = b
  · subst hab
    simp [Try.f14, q47, q43, q45, q41, q48, q49, e1, e2, hm, w1, e3, e4, awake_true]
  · obtain ⟨o5, H5, e5, rfl, L5⟩ := fail_run g2 (by simp [Rg.size]) b
    have hi : Rg.is ⟨if 0 < a then a else 0, [], []⟩ b = false := by
      unfold Rg.is
      simp
      intro h
      by_cases c : 0 < a
      · rw [if_pos c]; exact hab
      · rw [if_neg c]; omega
    have hf : Rg.fail ⟨if 0 < a then a else 0, [], []⟩ b = (0, false, ⟨if 0 < a then a else 0, [], []⟩) := by unfold Rg.fail; rw [hi]; rfl
    have hlv : Rg.leave ⟨if 0 < a then a else 0, [], []⟩ b = (0, false, ⟨if 0 < a then a else 0, [], []⟩) := by unfold Rg.leave; rw [hi]; rfl
    rw [hf] at e5 L5
    obtain ⟨r5, r6, g5, f5, n5⟩ := L5
    obtain ⟨o6, H6, e6, rfl, L6⟩ := leave_run g5 (by simp [Rg.size]) b
    rw [hlv] at e6 L6
    obtain ⟨r7, r8, g6, f6, n6⟩ := L6
    obtain ⟨v3, H3, e3, k3, f3⟩ := waits_run g6 (by simp [Rg.size])
    have g3 := g6.same f3 (fun _ _ h => h)
    obtain ⟨v4, H4, e4, k4, f4⟩ := entry_run g3 (by simp [Rg.size])
    obtain ⟨b3, c3, rfl, _⟩ := id k3
    obtain ⟨b4, c4, rfl, _⟩ := id k4
    have w1 := occ_run g6
    simp only [ptr_eq, iv_eq] at w1 e3 e4 e5 e6
    simp [Try.f14, q47, q43, q45, q41, q48, q49, e1, e2, e5, e6, hm, w1, e3, e4, awake_true, hab]

/-! ### Step by step -/
/-- Both regions, of the same, apart; the law's list is as it was. -/
structure Two (H : Heap) (p q : Nat) (r1 r2 r3 r4 : Option Nat) (s : Rg) (o : AObj) : Prop where
  one : IsG H p r1 r2 s
  two : IsG H q r3 r4 s
  apart : ∀ i, Ft p r1 r2 i → ¬ Ft q r3 r4 i
  l1 : ¬ Ft p r1 r2 0
  l2 : ¬ Ft q r3 r4 0
  lst : H.get 0 = o
theorem Two.step {H H1 H2 : Heap} {p q : Nat} {r1 r2 r3 r4 : Option Nat} {s s' : Rg} {o : AObj} (T : Two H p q r1 r2 r3 r4 s o) (ho : o ≠ .dead) (h1 : Left H H1 p r1 r2 s') (h2 : IsG H1 q r3 r4 s → Left H1 H2 q r3 r4 s') :
    ∃ r1' r2' r3' r4', Two H2 p q r1' r2' r3' r4' s' o ∧ H1.get 0 = o := by
  obtain ⟨a1, a2, g1, f1, n1⟩ := h1
  have t1 : IsG H1 q r3 r4 s := T.two.same f1 (fun i hi hj => T.apart i hj hi)
  obtain ⟨a3, a4, g2, f2, n2⟩ := h2 t1
  have hn := f1.n
  have k0 : H1.get 0 = o := f1.at T.lst ho T.l1
  have h0 : 0 < H.n := Heap.lt_of_get T.lst ho
  have ap : ∀ i, Ft p a1 a2 i → ¬ Ft q r3 r4 i := fun i hi hj => (n1 i hi).elim (fun k => T.apart i k hj) (fun k => by have := T.two.lt i hj; omega)
  refine ⟨a1, a2, a3, a4, ⟨g1.same f2 ap, g2, fun i hi hj => (n2 i hj).elim (ap i hi) (fun k => by have := g1.lt i hi; omega), fun e => (n1 0 e).elim T.l1 (fun k => by omega), fun e => (n2 0 e).elim T.l2 (fun k => by omega), f2.at k0 ho T.l2⟩, k0⟩
theorem Two.same {H H1 : Heap} {p q : Nat} {r1 r2 r3 r4 : Option Nat} {s : Rg} {o : AObj} (T : Two H p q r1 r2 r3 r4 s o) (ho : o ≠ .dead) (f : Same (fun _ => False) H H1) : Two H1 p q r1 r2 r3 r4 s o :=
  ⟨T.one.same f (fun _ _ h => h), T.two.same f (fun _ _ h => h), T.apart, T.l1, T.l2, f.at T.lst ho (fun h => h)⟩
theorem size_enter (s : Rg) (x : Int) : (s.enter x).2.size ≤ s.size + 1 := by
  unfold Rg.enter Rg.size; split; · simp
  split <;> simp <;> omega
theorem size_next (s : Rg) : s.next.2.size ≤ s.size := by
  unfold Rg.next Rg.size
  cases s.entry <;> simp
theorem size_fail (s : Rg) (x : Int) : (s.fail x).2.2.size ≤ s.size + 1 := by
  unfold Rg.fail; split
  · refine Nat.le_trans (size_next _) ?_; simp [Rg.size]; omega
  · simp
theorem size_leave (s : Rg) (x : Int) : (s.leave x).2.2.size ≤ s.size + 1 := by
  unfold Rg.leave; split
  · refine Nat.le_trans (size_next _) ?_; simp [Rg.size]; omega
  · simp
theorem plan14 : planOf Try.prog (drawN Try.f11 0) = some [none, none, none, none, (some (0, 1)), (some (0, 1)), (some (0, 1)), none, none] := by decide +kernel
theorem plan21 : planOf Try.prog (drawN Try.f11 1) = some [none, none, (some (0, 1)), (some (0, 1)), (some (0, 1)), (some (0, 1)), none, none, none, none, (some (1, 1)), (some (1, 1)), (some (1, 1)), (some (1, 1)), none, none, none, none, none, none, (some (3, 1)), (some (3, 1)), (some (3, 1)), (some (3, 1)), none, none, none] := by decide +kernel
/-- The comparison behind a step. -/
theorem reg21 {H : Heap} {p q : Nat} {r1 r2 r3 r4 : Option Nat} {s : Rg} {o : AObj} (T : Two H p q r1 r2 r3 r4 s o) (ho : o ≠ .dead) (hl : s.size ≤ 900) (t : List Value) (ht : t.length = 119) (h3 : rd t 3 = ptr p) (h4 : rd t 4 = ptr q) (rid : Nat) :
    Ends (W.code (.region rid ⟨drawN Try.f11 1⟩ true) ⟨Fr t [], []⟩ H) fun e s' H' => e = .normal ∧ (∃ l, s' = ⟨Fr t l, []⟩ ∧ look t 117 l = .bool false ∧ look t 5 l = rd t 5) ∧ Two H' p q r1 r2 r3 r4 s o := by
  have e1 := occ_run T.one
  obtain ⟨v1, H1, e2, k1, f1⟩ := entry_run T.one hl
  have T1 := T.same ho f1
  obtain ⟨v2, H2, e3, k2, f2⟩ := waits_run T1.one hl
  have T2 := T1.same ho f2
  obtain ⟨⟨a1, a2, g1, g2, g3⟩, _⟩ := T.two
  have q1 := f1.at g1 (by simp) (fun h => h)
  have q2 := f2.at q1 (by simp) (fun h => h)
  have s1 : SL H1 a1 s.entry := g2.sl.same f1.all
  have s2 : SL H2 a2 s.waits := (g3.sl.same f1.all).same f2.all
  unfold Rg.size at hl
  have e4 := ints_true k1 s1 (by omega)
  have e5 := ints_true k2 s2 (by omega)
  refine region_plan (by exact plan21) ?_
  simp only [ptr_eq, iv_eq] at h3 h4 e1 e2 e3 g1 q1 q2
  simp [drawN, Try.f11, drawsOf, ht, h3, h4, e1, e2, e3, e4, e5, g1, q1, q2]
  exact ⟨⟨_, rfl, by simp, by simp⟩, T2⟩

/-- One step of both, whichever it is. -/
theorem Two.enter {H : Heap} {p q : Nat} {r1 r2 r3 r4 : Option Nat} {s : Rg} {o : AObj} (T : Two H p q r1 r2 r3 r4 s o) (ho : o ≠ .dead) (hl : s.size ≤ 900) (z : Int) :
    ∃ b H1 H2 r1' r2' r3' r4', W.call 41 [.pointer (some ⟨p, 0, none⟩), .int .i64 z] H = some (.val (.bool b), H1) ∧ W.call 42 [.pointer (some ⟨q, 0, none⟩), .int .i64 z] H1 = some (.val (.bool b), H2) ∧ Two H2 p q r1' r2' r3' r4' (s.enter z).2 o ∧ Same (Ft p r1 r2) H H1 := by
  obtain ⟨o1, H1, e1, rfl, L1⟩ := enter_run T.one (by omega) z
  have f1 : Same (Ft p r1 r2) H H1 := by obtain ⟨_, _, _, f, _⟩ := L1; exact f
  have t1 : IsG H1 q r3 r4 s := T.two.same f1 (fun i hi hj => T.apart i hj hi)
  obtain ⟨o2, H2, e2, rfl, L2⟩ := renter_run t1 hl z
  obtain ⟨a, b, c, d, T2, _⟩ := T.step ho L1 (fun _ => L2)
  exact ⟨_, H1, H2, a, b, c, d, e1, e2, T2, f1⟩
theorem Two.fail {H : Heap} {p q : Nat} {r1 r2 r3 r4 : Option Nat} {s : Rg} {o : AObj} (T : Two H p q r1 r2 r3 r4 s o) (ho : o ≠ .dead) (hl : s.size ≤ 900) (z : Int) :
    ∃ x b H1 H2 r1' r2' r3' r4', W.call 43 [.pointer (some ⟨p, 0, none⟩), .int .i64 z] H = some (.val (.tuple #[.int .i64 x, .bool b]), H1) ∧ W.call 44 [.pointer (some ⟨q, 0, none⟩), .int .i64 z] H1 = some (.val (.tuple #[.int .i64 x, .bool b]), H2) ∧ Two H2 p q r1' r2' r3' r4' (s.fail z).2.2 o ∧ Same (Ft p r1 r2) H H1 := by
  obtain ⟨o1, H1, e1, rfl, L1⟩ := fail_run T.one hl z
  have f1 : Same (Ft p r1 r2) H H1 := by obtain ⟨_, _, _, f, _⟩ := L1; exact f
  have t1 : IsG H1 q r3 r4 s := T.two.same f1 (fun i hi hj => T.apart i hj hi)
  obtain ⟨o2, H2, e2, rfl, L2⟩ := rfail_run t1 hl z
  obtain ⟨a, b, c, d, T2, _⟩ := T.step ho L1 (fun _ => L2)
  exact ⟨_, _, H1, H2, a, b, c, d, e1, e2, T2, f1⟩
theorem Two.leave {H : Heap} {p q : Nat} {r1 r2 r3 r4 : Option Nat} {s : Rg} {o : AObj} (T : Two H p q r1 r2 r3 r4 s o) (ho : o ≠ .dead) (hl : s.size ≤ 900) (z : Int) :
    ∃ x b H1 H2 r1' r2' r3' r4', W.call 45 [.pointer (some ⟨p, 0, none⟩), .int .i64 z] H = some (.val (.tuple #[.int .i64 x, .bool b]), H1) ∧ W.call 46 [.pointer (some ⟨q, 0, none⟩), .int .i64 z] H1 = some (.val (.tuple #[.int .i64 x, .bool b]), H2) ∧ Two H2 p q r1' r2' r3' r4' (s.leave z).2.2 o ∧ Same (Ft p r1 r2) H H1 := by
  obtain ⟨o1, H1, e1, rfl, L1⟩ := leave_run T.one hl z
  have f1 : Same (Ft p r1 r2) H H1 := by obtain ⟨_, _, _, f, _⟩ := L1; exact f
  have t1 : IsG H1 q r3 r4 s := T.two.same f1 (fun i hi hj => T.apart i hj hi)
  obtain ⟨o2, H2, e2, rfl, L2⟩ := rleave_run t1 hl z
  obtain ⟨a, b, c, d, T2, _⟩ := T.step ho L1 (fun _ => L2)
  exact ⟨_, _, H1, H2, a, b, c, d, e1, e2, T2, f1⟩

theorem plays_loop {p q : Nat} (len cap : Nat) (hl : len ≤ 120) (hc : len ≤ cap) (ls : List Value) (hls : ls.length = cap * 2) (hint : ∀ c ∈ ls, isInt .i64 c) (t0 : List Value) (ht0 : t0.length = 119)
    (h0 : rd t0 0 = .slice (some ⟨0, 0, none⟩) len cap) (h3 : rd t0 3 = ptr p) (h4 : rd t0 4 = ptr q) (h5 : rd t0 5 = .int .i64 0) (H0 : Heap) (s0 : Rg) (hs0 : s0.size = 0) (T0 : Two H0 p q none none none none s0 (.row false 0 0 ls)) {Q : QA}
    (hQ : ∀ t l H, t.length = 119 → Q (.exit 0) ⟨Fr t l, []⟩ H) :
    Ends (W.code (.loop (loopN Try.f11 0)) ⟨t0, []⟩ H0) Q := by
  refine loop_wp (fun m t H => ∃ i r1 r2 r3 r4 s, i + m = len ∧ rd t 5 = .int .i64 (i : Nat) ∧ s.size ≤ i ∧ Two H p q r1 r2 r3 r4 s (.row false 0 0 ls)) len ⟨0, none, none, none, none, s0, by omega, by simpa using h5, by omega, T0⟩ ?_
  rintro m t H hk ⟨i, r1, r2, r3, r4, s, hi, g5, hs, T⟩
  have ht : t.length = 119 := hk.1.trans ht0
  have hh := hk.all [0, 3, 4] (by decide +kernel)
  simp [h0, h3, h4] at hh
  obtain ⟨g0, g3, g4⟩ := hh
  by_cases hm : m = 0
  · subst hm
    simp [loopN, Try.f11, loopsOf, ht, g0, g5, show ¬ i < len by omega]
    exact hQ _ _ _ ht
  · obtain ⟨k, hk1, _⟩ := hint (ls[i * 2]'(by omega)) (List.getElem_mem _)
    obtain ⟨z, hz1, _⟩ := hint (ls[i * 2 + 1]'(by omega)) (List.getElem_mem _)
    have hdt : (ls.drop (i * 2)).take 2 = [.int .i64 k, .int .i64 z] := by
      rw [List.drop_eq_getElem_cons (by omega), List.drop_eq_getElem_cons (by omega)]
      simp [hk1, hz1]
    have hlst := T.lst
    have T' := T.same (by simp) (Same.push _ H (.row true 0 1 [.int .i64 k, .int .i64 z]))
    have hx := Heap.get_push_self H (.row true 0 1 [.int .i64 k, .int .i64 z])
    have hnx : ¬ Ft p r1 r2 H.n := fun h => by have := T.one.lt _ h; omega
    -- the comparison, and on
    have fin : ∀ (t' : List Value) (l : List (Nat × Value)) (H' : Heap) (r1' r2' r3' r4' : Option Nat) (s' : Rg), t'.length = 119 → look t' 3 l = ptr p → look t' 4 l = ptr q → look t' 5 l = .int .i64 i → s'.size ≤ i + 1 → Two H' p q r1' r2' r3' r4' s' (.row false 0 0 ls) →
        Ends (W.code (.region 21 ⟨drawN Try.f11 1⟩ true) ⟨Fr t' l, []⟩ H') fun e s2 H2 => e = .normal ∧ ∃ t2 l2, s2 = ⟨Fr t2 l2, []⟩ ∧ t2.length = 119 ∧ look t2 117 l2 = .bool false ∧ look t2 5 l2 = .int .i64 i ∧ Two H2 p q r1' r2' r3' r4' s' (.row false 0 0 ls) := by
      intro t' l H' r1' r2' r3' r4' s' ht' a3 a4 a5 hs' T'
      have := reg21 T' (by simp) (by omega) (Fr t' l) (by simp [ht']) (by simpa [ht'] using a3) (by simpa [ht'] using a4) 21
      rw [Fr_nil] at this
      refine this.mono ?_
      rintro e s2 H2 ⟨rfl, ⟨l2, rfl, b1, b2⟩, T2⟩
      exact ⟨rfl, Fr t' l, l2, rfl, by simp [ht'], b1, by rw [b2]; simpa [ht'] using a5, T2⟩
    have hlen : i * 2 + 2 ≤ ls.length := by omega
    by_cases k0 : k = 0
    · subst k0
      obtain ⟨b, H1, H2, a1, a2, a3, a4, e1, e2, T2, f1⟩ := T'.enter (by simp) (by omega) z
      have hx1 := f1.at hx (by simp) hnx
      simp [loopN, Try.f11, loopsOf, ht, g0, g3, g4, g5, show i < len by omega, hlst, hdt, hlen]
      refine region_plan (by exact plan14) ?_
      simp [ht, g0, g3, g4, g5, hx1, e1, e2]
      refine (fin _ _ H2 a1 a2 a3 a4 _ (by simp [ht]) (by simp [g3]) (by simp [g4]) (by simp [g5]) (Nat.le_trans (size_enter s z) (by omega)) T2).mono ?_
      rintro e s2 H3 ⟨rfl, t2, l2, rfl, ht2, b1, b2, T3⟩
      simp [ht2, b1, b2, wrap64 ((i : Int) + 1) (by omega) (by omega)]
      exact ⟨m - 1, by omega, i + 1, by omega, by simp, a1, a2, a3, a4, _, Nat.le_trans (size_enter s z) (by omega), T3⟩
    · by_cases k1 : k = 1
      · subst k1
        obtain ⟨x, b, H1, H2, a1, a2, a3, a4, e1, e2, T2, f1⟩ := T'.fail (by simp) (by omega) z
        have hx1 := f1.at hx (by simp) hnx
        simp [loopN, Try.f11, loopsOf, ht, g0, g3, g4, g5, show i < len by omega, hlst, hdt, hlen, hx1, e1, e2]
        refine (fin _ _ H2 a1 a2 a3 a4 _ (by simp [ht]) (by simp [g3]) (by simp [g4]) (by simp [g5]) (Nat.le_trans (size_fail s z) (by omega)) T2).mono ?_
        rintro e s2 H3 ⟨rfl, t2, l2, rfl, ht2, b1, b2, T3⟩
        simp [ht2, b1, b2, wrap64 ((i : Int) + 1) (by omega) (by omega)]
        exact ⟨m - 1, by omega, i + 1, by omega, by simp, a1, a2, a3, a4, _, Nat.le_trans (size_fail s z) (by omega), T3⟩
      · obtain ⟨x, b, H1, H2, a1, a2, a3, a4, e1, e2, T2, f1⟩ := T'.leave (by simp) (by omega) z
        have hx1 := f1.at hx (by simp) hnx
        simp [loopN, Try.f11, loopsOf, ht, g0, g3, g4, g5, show i < len by omega, hlst, hdt, hlen, hx1, e1, e2, k0, k1]
        refine (fin _ _ H2 a1 a2 a3 a4 _ (by simp [ht]) (by simp [g3]) (by simp [g4]) (by simp [g5]) (Nat.le_trans (size_leave s z) (by omega)) T2).mono ?_
        rintro e s2 H3 ⟨rfl, t2, l2, rfl, ht2, b1, b2, T3⟩
        simp [ht2, b1, b2, wrap64 ((i : Int) + 1) (by omega) (by omega)]
        exact ⟨m - 1, by omega, i + 1, by omega, by simp, a1, a2, a3, a4, _, Nat.le_trans (size_leave s z) (by omega), T3⟩
theorem plays_walk (x : Value) (o : AObj) (fa : FlatArg (isInt .i64) 2 0 x o) : Gives (W.call 11 [x] (Heap.empty.push o)) fun o _ => o = .val (.bool true) := by
  obtain ⟨base, len, cap, ls, rfl, hc, _, hls, hint, hb⟩ := fa
  rw [c11, callB, bodyOf]
  by_cases c0 : (120 : Int) < len
  · simp [Try.f11, awake_true, c0]
  obtain ⟨o1, H1, e1, rfl, g1, f1⟩ := new_ok (Heap.empty.push o)
  simp only [ptr_eq] at e1
  simp [Try.f11, awake_true, c0, e1]
  rcases hb with ⟨rfl, rfl, rfl, rfl⟩ | ⟨rfl, rfl⟩
  · rw [code_loop]
    simp [awake_true]
  · have hg : (Heap.empty.push (.row false 0 0 ls)).get 0 = .row false 0 0 ls := Heap.get_push_self Heap.empty _
    have f2 := Same.push (fun _ => False) H1 (.row true 0 1 [.int .i64 0, .slice none 0 0, .slice none 0 0])
    have hn := f1.n
    have hn1 : (Heap.empty.push (.row false 0 0 ls)).n = 1 := rfl
    have hlt := g1.lt _ (.inl rfl)
    refine plays_loop len cap (by omega) hc ls hls hint _ (by simp [len_Bs]) (by simp) (by simp) (by simp) (by simp) _ ⟨0, [], []⟩ rfl ⟨g1.same f2 (fun _ _ h => h), ⟨⟨_, _, Heap.get_push_self _ _, GL.nil _, GL.nil _⟩, by simp, by simp, by simp⟩, ?_, ?_, ?_, f2.at (f1.at hg (by simp) (fun h => h)) (by simp) (fun h => h)⟩ ?_
    · rintro i (rfl | h | h) (h2 | h2 | h2) <;> first | (cases h; done) | (cases h2; done) | omega
    · rintro (h | h | h) <;> first | (cases h; done) | omega
    · rintro (h | h | h) <;> first | (cases h; done) | omega
    · intro t l H ht
      simp [ht, awake_true]

/-! ### Asked again -/
def upto (a : Int) : Nat → List Int
  | 0 => []
  | k + 1 => a :: upto (a + 1) k
theorem upto_len (a : Int) (k : Nat) : (upto a k).length = k := by
  induction k generalizing a with
  | zero => rfl
  | succ k ih => simp [upto, ih]
theorem upto_snoc (a : Int) (k : Nat) : upto a k ++ [a + k] = upto a (k + 1) := by
  induction k generalizing a with
  | zero => simp [upto]
  | succ k ih =>
    show a :: (upto (a + 1) k ++ [a + ((k + 1 : Nat) : Int)]) = a :: upto (a + 1) (k + 1)
    rw [← ih (a + 1)]
    congr 3
    omega
/-- Behind i who waited, nobody is in it. -/
def w1 (i : Nat) : Rg := ⟨0, [], upto 1 i⟩
theorem w1_enter (i : Nat) : (w1 i).enter (i + 1 : Nat) = (true, ⟨(i + 1 : Nat), [], upto 1 i⟩) := by
  unfold Rg.enter w1
  rw [if_neg (by omega)]
  simp
theorem w1_fail (i : Nat) : (⟨(i + 1 : Nat), [], upto 1 i⟩ : Rg).fail (i + 1 : Nat) = (0, true, w1 (i + 1)) := by
  unfold Rg.fail Rg.is
  rw [if_pos (by simp)]
  have := upto_snoc 1 i
  rw [show (1 : Int) + i = ((i + 1 : Nat) : Int) by omega] at this
  simp only [Rg.next, w1, this]
/-- And j that want to come in. -/
def w2 (n j : Nat) : Rg := ⟨500, upto 101 j, upto 1 n⟩
theorem w2_enter (n j : Nat) : (w2 n j).enter (101 + j) = (false, w2 n (j + 1)) := by
  unfold Rg.enter w2
  rw [if_neg (by omega), if_neg (by simp)]
  rw [upto_snoc]
/-- What is left of the queue, behind i who left. -/
def left (n m i : Nat) : List Int := upto (1 + i) (n - i) ++ upto (101 + (i - n : Nat)) (m - (i - n))
def want (n i : Nat) : Int := if i ≤ n then i else 100 + i - n
theorem left_next (n m i : Nat) (h : i < n + m) : left n m i = want n (i + 1) :: left n m (i + 1) := by
  unfold left want
  by_cases c : i < n
  · rw [if_pos (by omega), show n - i = (n - (i + 1)) + 1 by omega, show i - n = 0 by omega, show i + 1 - n = 0 by omega]
    simp only [upto, List.cons_append]
    rw [show (1 : Int) + i + 1 = 1 + ((i + 1 : Nat) : Int) by omega, show (1 : Int) + i = ((i + 1 : Nat) : Int) by omega]
  · rw [if_neg (by omega), show n - i = 0 by omega, show n - (i + 1) = 0 by omega, show m - (i - n) = (m - (i + 1 - n)) + 1 by omega]
    simp only [upto, List.nil_append]
    congr 1
    · omega
    · congr 1; omega
theorem left_end (n m : Nat) : left n m (n + m) = [] := by
  unfold left
  rw [show n - (n + m) = 0 by omega, show m - (n + m - n) = 0 by omega]
  rfl
/-- The one in it, behind i who left. -/
def at_ (n i : Nat) : Int := if i = 0 then 500 else want n i
def w3 (n m i : Nat) : Rg := ⟨at_ n i, left n m i, []⟩
theorem want_pos (n i : Nat) (h : 0 < i) : 0 < want n i := by unfold want; split <;> omega
theorem at_pos (n i : Nat) : 0 < at_ n i := by
  unfold at_; split
  · decide
  · exact want_pos n i (by omega)
theorem w2_leave (n m : Nat) (h : 0 < n + m) : (w2 n m).leave 500 = (want n 1, true, w3 n m 1) := by
  unfold Rg.leave Rg.is w2
  rw [if_pos (by simp)]
  have e : upto 1 n ++ upto 101 m = left n m 0 := by unfold left; simp
  simp only [Rg.next, e, left_next n m 0 h]
  rfl
theorem w3_leave (n m i : Nat) (h : i < n + m) : (w3 n m i).leave (at_ n i) = (want n (i + 1), true, w3 n m (i + 1)) := by
  unfold Rg.leave Rg.is w3
  rw [if_pos (by simp [at_pos])]
  simp only [Rg.next, List.nil_append, left_next n m i h]
  simp [at_]
theorem w3_end (n m : Nat) : (w3 n m (n + m)).leave (at_ n (n + m)) = (0, true, ⟨0, [], []⟩) := by
  unfold Rg.leave Rg.is w3
  rw [if_pos (by simp [at_pos])]
  simp only [Rg.next, List.nil_append, left_end]
/-- Who stands where, behind i who left: the first one leaves with all that waited behind it. -/
def w4 (n m i : Nat) : Rg := if i = 0 then w2 n m else w3 n m i
theorem w4_leave (n m i : Nat) (h : i < n + m) : (w4 n m i).leave (at_ n i) = (want n (i + 1), true, w4 n m (i + 1)) := by
  unfold w4
  by_cases c : i = 0
  · subst c
    rw [if_pos rfl, if_neg (by omega)]
    exact w2_leave n m h
  · rw [if_neg c, if_neg (by omega)]
    exact w3_leave n m i h
theorem w4_end (n m : Nat) : (w4 n m (n + m)).leave (at_ n (n + m)) = (0, true, ⟨0, [], []⟩) := by
  unfold w4
  by_cases c : n + m = 0
  · obtain ⟨rfl, rfl⟩ : n = 0 ∧ m = 0 := by omega
    rfl
  · rw [if_neg c]; exact w3_end n m
theorem w4_size (n m i : Nat) (hn : n ≤ 30) (hm : m ≤ 30) : (w4 n m i).size ≤ 900 := by
  unfold w4 Rg.size
  split
  · simp [w2, upto_len]; omega
  · simp [w3, left, upto_len]; omega
theorem w4_inn (n m i : Nat) : (w4 n m i).inn = at_ n i := by
  unfold w4
  split
  · rename_i h; subst h; rfl
  · rfl

theorem again_walk (n : Int) (_ : Lit.wf (.int .i64 n) = true) (m : Int) (_ : Lit.wf (.int .i64 m) = true) : Gives (W.call 13 [.int .i64 n, .int .i64 m] Heap.empty) fun o _ => o = .val (.bool true) := by
  rw [c13, callB, bodyOf]
  by_cases c1 : n < 0
  · simp [Try.f13, awake_true, c1]
  by_cases c2 : 30 < n
  · simp [Try.f13, awake_true, c1, c2]
  by_cases c3 : m < 0
  · simp [Try.f13, awake_true, c1, c2, c3]
  by_cases c4 : 30 < m
  · simp [Try.f13, awake_true, c1, c2, c3, c4]
  obtain ⟨n, rfl⟩ : ∃ v : Nat, n = v := ⟨n.toNat, by omega⟩
  obtain ⟨m, rfl⟩ : ∃ v : Nat, m = v := ⟨m.toNat, by omega⟩
  obtain ⟨o1, H1, e1, rfl, g1, f1⟩ := new_ok Heap.empty
  generalize Heap.empty.n = p at *
  simp only [ptr_eq] at e1
  simp [Try.f13, awake_true, c1, c2, c3, c4, e1]
  refine loop_wp (fun k t H => ∃ i r1 r2, i + k = n ∧ rd t 6 = .int .i64 (i + 1 : Nat) ∧ IsG H p r1 r2 (w1 i)) n ⟨0, none, none, by omega, by simp, g1⟩ ?_
  rintro k t H hk ⟨i, r1, r2, hi, g6, T⟩
  have ht : t.length = 120 := hk.1.trans (by simp [len_Bs])
  have hh := hk.all [0, 1, 5] (by decide +kernel)
  simp at hh
  obtain ⟨a0, a1, a5⟩ := hh
  by_cases hk0 : k = 0
  · subst hk0
    obtain rfl : i = n := by omega
    obtain ⟨o2, H2, e2, rfl, r3, r4, g2, f2, n2⟩ := enter_run T (by simp [w1, Rg.size, upto_len]; omega) 500
    have he : (w1 i).enter 500 = (true, w2 i 0) := by unfold Rg.enter w1 w2; simp [upto]
    rw [he] at e2 g2
    simp only [ptr_eq, iv_eq] at e2
    simp [ht, a0, a1, a5, g6, show ¬ ((i + 1 : Nat) : Int) ≤ i by omega, show ¬ (i : Int) + 1 ≤ i by omega, e2]
    refine loop_wp (fun k t H => ∃ j r1 r2, j + k = m ∧ rd t 9 = .int .i64 (j + 1 : Nat) ∧ IsG H p r1 r2 (w2 i j)) m ⟨0, r3, r4, by omega, by simp [ht], g2⟩ ?_
    rintro k2 t2 H3 hk2 ⟨j, r5, r6, hj, g9, T2⟩
    have ht2 : t2.length = 120 := hk2.1.trans (by simp [ht])
    have hh := hk2.all [0, 1, 5] (by decide +kernel)
    simp [ht, a0, a1, a5] at hh
    obtain ⟨b0, b1, b5⟩ := hh
    by_cases hk20 : k2 = 0
    · subst hk20
      obtain rfl : j = m := by omega
      simp [ht2, b0, b1, b5, g9, show ¬ ((j + 1 : Nat) : Int) ≤ j by omega, show ¬ (j : Int) + 1 ≤ j by omega]
      refine loop_wp (fun k t H => ∃ q r1 r2, q + k = i + j ∧ rd t 11 = .int .i64 (q + 1 : Nat) ∧ rd t 10 = .int .i64 (at_ i q) ∧ IsG H p r1 r2 (w4 i j q)) (i + j) ⟨0, r5, r6, by omega, by simp [ht2], by simp [ht2, at_], T2⟩ ?_
      rintro k3 t3 H4 hk3 ⟨q, r7, r8, hq, g11, g10, T3⟩
      have ht3 : t3.length = 120 := hk3.1.trans (by simp [ht2])
      have hh := hk3.all [0, 1, 5] (by decide +kernel)
      simp [ht2, b0, b1, b5] at hh
      obtain ⟨d0, d1, d5⟩ := hh
      by_cases hk30 : k3 = 0
      · subst hk30
        obtain rfl : q = i + j := by omega
        obtain ⟨o5, H5, e5, rfl, r9, r10, g5, f5, n5⟩ := leave_run T3 (w4_size _ _ _ (by omega) (by omega)) (at_ i (i + j))
        rw [w4_end] at e5 g5
        have v5 := occ_run g5
        simp only [ptr_eq, iv_eq] at e5 v5
        simp [ht3, d0, d1, d5, g11, g10, wrap64 ((i : Int) + j) (by omega) (by omega), show ¬ ((i + j + 1 : Nat) : Int) ≤ i + j by omega, show ¬ (i : Int) + j + 1 ≤ i + j by omega, e5, v5, awake_true]
      · obtain ⟨o5, H5, e5, rfl, r9, r10, g5, f5, n5⟩ := leave_run T3 (w4_size _ _ _ (by omega) (by omega)) (at_ i q)
        rw [w4_leave i j q (by omega)] at e5 g5
        have v5 := occ_run g5
        rw [w4_inn] at v5
        have hat : at_ i (q + 1) = want i (q + 1) := by unfold at_; rw [if_neg (by omega)]
        rw [hat] at v5
        simp only [ptr_eq, iv_eq] at e5 v5
        by_cases hqi : q < i
        · have hw : want i (q + 1) = (q : Int) + 1 := by unfold want; rw [if_pos (by omega)]; omega
          rw [hw] at e5 v5 hat
          simp [ht3, d0, d1, d5, g11, g10, wrap64 ((i : Int) + j) (by omega) (by omega), show (q : Int) + 1 ≤ i + j by omega, show ¬ (i : Int) < q + 1 by omega, e5, v5, wrap64 ((q : Int) + 1 + 1) (by omega) (by omega)]
          exact ⟨k3 - 1, by omega, q + 1, by omega, by simp, by rw [hat], r9, r10, g5⟩
        · have hw : want i (q + 1) = 100 + ((q : Int) + 1) - i := by unfold want; rw [if_neg (by omega)]; omega
          rw [hw] at e5 v5 hat
          simp [ht3, d0, d1, d5, g11, g10, wrap64 ((i : Int) + j) (by omega) (by omega), show (q : Int) + 1 ≤ i + j by omega, show (i : Int) < q + 1 by omega, wrap64 (100 + ((q : Int) + 1)) (by omega) (by omega), wrap64 (100 + ((q : Int) + 1) - i) (by omega) (by omega), e5, v5, wrap64 ((q : Int) + 1 + 1) (by omega) (by omega)]
          exact ⟨k3 - 1, by omega, q + 1, by omega, by simp, by rw [hat], r9, r10, g5⟩
    · obtain ⟨o5, H5, e5, rfl, r9, r10, g5, f5, n5⟩ := enter_run T2 (by simp [w2, Rg.size, upto_len]; omega) (101 + j)
      rw [w2_enter] at e5 g5
      simp only [ptr_eq, iv_eq] at e5
      rw [show (101 : Int) + j = 100 + (j + 1) by omega] at e5
      simp [ht2, b0, b1, b5, g9, show (j : Int) + 1 ≤ m by omega, wrap64 (100 + ((j : Int) + 1)) (by omega) (by omega), e5, wrap64 ((j : Int) + 1 + 1) (by omega) (by omega)]
      exact ⟨k2 - 1, by omega, j + 1, by omega, by simp, r9, r10, g5⟩
  · obtain ⟨o2, H2, e2, rfl, r3, r4, g2, f2, n2⟩ := enter_run T (by simp [w1, Rg.size, upto_len]; omega) (i + 1 : Nat)
    rw [w1_enter] at e2 g2
    obtain ⟨o3, H3, e3, rfl, r5, r6, g3, f3, n3⟩ := fail_run g2 (by simp [Rg.size, upto_len]; omega) (i + 1 : Nat)
    rw [w1_fail] at e3 g3
    simp only [ptr_eq, iv_eq, Int.natCast_add, Int.cast_ofNat_Int] at e2 e3
    simp [ht, a0, a1, a5, g6, show (i : Int) + 1 ≤ n by omega, e2, e3, wrap64 ((i : Int) + 1 + 1) (by omega) (by omega)]
    exact ⟨k - 1, by omega, i + 1, by omega, by simp, r5, r6, g3⟩
end Go.Vm.RegionLaw
