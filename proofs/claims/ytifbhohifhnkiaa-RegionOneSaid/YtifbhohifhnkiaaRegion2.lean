/- What is proved: what the other functions of package region and of its reference hand back, and what they turn. -/
import Derived.Test.YtifbhohifhnkiaaRegion
namespace Go.Vm.RegionLaw
open Go Go.Proofs
set_option maxRecDepth 100000
set_option linter.unusedSimpArgs false
attribute [local simp] repCells_succ writeAt rd_Fr

theorem plan45 : planOf Try.prog (drawN Try.f45 0) = some [(some (0, 2)), none, none, none, none, none, none, none, none, none, none, none, none, none, none, none, none] := by decide +kernel
theorem plan46 : planOf Try.prog (drawN Try.f46 0) = some [(some (0, 2)), none, none, none, none, none, (some (0, 1)), (some (0, 1)), (some (0, 1)), (some (0, 1)), none, none, none, none] := by decide +kernel
theorem new_ok (H : Heap) : Gives (W.call 40 [] H) fun o H' => o = .val (ptr H.n) ∧ IsG H' H.n none none ⟨0, [], []⟩ ∧ Same (fun _ => False) H H' := by
  rw [c40, callB, bodyOf]
  simp [Try.f40]
  exact ⟨⟨⟨_, _, by simp, GL.nil _, GL.nil _⟩, by simp, by simp, by simp⟩, Same.push _ _ _⟩
theorem all63 {H : Heap} {p o : Nat} {a b : List Value} {v : Value} {xs : List Int} (h : H.get p = .row true 0 1 (a ++ v :: b)) (ho : a.length = o) (g : SL H v xs) (hl : xs.length ≤ 1000000) :
    ∃ v' H', W.call 63 [.pointer (some ⟨p, o, none⟩)] H = some (.val v', H') ∧ SL H' v' xs ∧ Same (fun _ => False) H H' := by
  obtain ⟨o', H', e1, v', rfl, k1, k2⟩ := clone52 g hl
  refine ⟨v', H', ?_, k1, k2⟩
  have ha : (a ++ v :: b)[o]? = some v := by rw [← ho]; simp
  rw [c63, callB, bodyOf]
  simp [Try.f63, h, ha, e1]
section
variable {H : Heap} {p : Nat} {r1 r2 : Option Nat} {s : Rg} (h : IsG H p r1 r2 s) (hl : s.size ≤ 900)
set_option linter.unusedSectionVars false
include h hl
theorem entry_run : ∃ v H', W.call 48 [ptr p] H = some (.val v, H') ∧ SL H' v s.entry ∧ Same (fun _ => False) H H' := by
  obtain ⟨⟨v1, v2, g1, g2, g3⟩, n1, n2, n12⟩ := h
  unfold Rg.size at hl
  obtain ⟨v', H', e1, k1, k2⟩ := all63 (a := [iv s.inn]) (b := [v2]) (o := 1) g1 rfl g2.sl (by omega)
  refine ⟨v', H', ?_, k1, k2⟩
  rw [c48, callB, bodyOf]
  simp [Try.f48, g1, e1]
theorem waits_run : ∃ v H', W.call 49 [ptr p] H = some (.val v, H') ∧ SL H' v s.waits ∧ Same (fun _ => False) H H' := by
  obtain ⟨⟨v1, v2, g1, g2, g3⟩, n1, n2, n12⟩ := h
  unfold Rg.size at hl
  obtain ⟨v', H', e1, k1, k2⟩ := all63 (a := [iv s.inn, v1]) (b := []) (o := 2) g1 rfl g3.sl (by omega)
  refine ⟨v', H', ?_, k1, k2⟩
  rw [c49, callB, bodyOf]
  simp [Try.f49, g1, e1]
/-- One more waits for its condition. -/
theorem putw_run (pid : Int) : ∃ H1, W.call 58 [.pointer (some ⟨p, 2, none⟩), .slice (some ⟨H.n, 0, none⟩) 1 1] (H.push (.row true 0 1 [.int .i64 pid])) = some (.val (.tuple #[]), H1) ∧ Left H H1 p r1 r2 { s with waits := s.waits ++ [pid] } := by
  obtain ⟨⟨v1, v2, g1, g2, g3⟩, n1, n2, n12⟩ := id h
  unfold Rg.size at hl
  have hp := Heap.lt_of_get g1 (by simp)
  have f0 := Same.push (fun _ => False) H (.row true 0 1 [.int .i64 pid])
  obtain ⟨v', r', H1, e1, q1, k1, f1, m1, hp1⟩ := put_run (a := [iv s.inn, v1]) (b := []) (o := 2) (x := .slice (some ⟨H.n, 0, none⟩) 1 1) (ys := [pid]) (f0.at g1 (by simp) (fun h => h)) rfl (g3.same f0 (fun _ _ h => h)) n2 ⟨_, _, rfl, .inr ⟨H.n, 0, true, 0, 1, _, rfl, by simp; rfl, by simp, by simp⟩⟩ (by simp; omega)
  have m2 := m1.le f0.n
  have f2 := Same.set (X := (· = p)) H1 hp1 rfl (.row true 0 1 ([iv s.inn, v1] ++ v' :: []))
  refine ⟨_, e1, r1, r', ⟨⟨v1, v', by rw [Heap.get_set_self _ _ hp1]; simp, ?_, k1.same f2 (m2.ne hp n2)⟩, n1, fun e => m2.ne hp n2 p e rfl, ?_⟩, ((f0.mono (by simp)).trans (f1.mono (fun i h => .inr (.inr h)))).trans (f2.mono (fun i h => .inl h)), ?_⟩
  · exact (((g2.same f0 (fun _ _ h => h)).same f1 (fun i hi e => n12 i hi e))).same f2 (fun i hi e => n1 (by rw [hi, e]))
  · intro i hi hj
    exact (m2 i hj).elim (fun k => n12 i hi k) (fun k => by have := g2.lt hi; omega)
  · rintro i (rfl | hi | hi)
    · exact .inl (.inl rfl)
    · exact .inl (.inr (.inl hi))
    · exact (m2 i hi).imp (fun k => .inr (.inr k)) id
theorem fail_run (pid : Int) : Gives (W.call 43 [ptr p, iv pid] H) fun o H' => o = .val (.tuple #[iv (s.fail pid).1, .bool (s.fail pid).2.1]) ∧ Left H H' p r1 r2 (s.fail pid).2.2 := by
  have e0 := is_run h pid
  simp only [ptr_eq, iv_eq] at e0
  rw [c43, callB, bodyOf]
  unfold Rg.fail
  by_cases c : s.is pid = true
  · obtain ⟨H1, e1, L1⟩ := putw_run h hl pid
    obtain ⟨r1', r2', G1, f1, n1⟩ := id L1
    obtain ⟨o, H2, e2, rfl, L2⟩ := next_run G1 (by unfold Rg.size at hl ⊢; simp; omega)
    simp only [ptr_eq, iv_eq] at e2
    simp [Try.f43, e0, c, e1, e2]
    exact Left.trans f1 n1 L2
  · have c' : s.is pid = false := by simpa using c
    simp [Try.f43, e0, c']
    exact Left.refl h

theorem leave_run (pid : Int) : Gives (W.call 45 [ptr p, iv pid] H) fun o H' => o = .val (.tuple #[iv (s.leave pid).1, .bool (s.leave pid).2.1]) ∧ Left H H' p r1 r2 (s.leave pid).2.2 := by
  have e0 := is_run h pid
  simp only [ptr_eq, iv_eq] at e0
  rw [c45, callB, bodyOf]
  unfold Rg.leave
  by_cases c : s.is pid = true
  · obtain ⟨⟨v1, v2, g1, g2, g3⟩, n1, n2, n12⟩ := id h
    unfold Rg.size at hl
    have hp := Heap.lt_of_get g1 (by simp)
    have f0 := Same.push (fun _ => False) H (.row true 0 1 [v2, v1])
    obtain ⟨v, r, H1, e1, k1, k2, k3⟩ := concat_run (Heap.get_push_self H (.row true 0 1 [v2, v1])) (g3.sl.same f0.all) (g2.sl.same f0.all) (by omega)
    have q1 : H1.get p = _ := k3.at (f0.at g1 (by simp) (fun h => h)) (by simp) (fun h => h)
    have hp1 := Heap.lt_of_get q1 (by simp)
    have hr : r ≠ some p := fun e => by have := k2 p e; simp at this; omega
    -- behind the two stores
    have fs := Same.set (X := (· = p)) H1 hp1 rfl (.row true 0 1 [iv s.inn, v, .slice none 0 0])
    have G2 : IsG (H1.set p (.row true 0 1 [iv s.inn, v, .slice none 0 0])) p r none { s with entry := s.waits ++ s.entry, waits := [] } := by
      refine ⟨⟨v, .slice none 0 0, Heap.get_set_self _ _ hp1, k1.same fs (fun i hi e => hr (by rw [hi, e])), GL.nil _⟩, hr, by simp, by simp⟩
    obtain ⟨o, H2, e2, rfl, L2⟩ := next_run G2 (by unfold Rg.size; simp; omega)
    have F : Same (Ft p r1 r2) H (H1.set p (.row true 0 1 [iv s.inn, v, .slice none 0 0])) := ((f0.trans k3).mono (by simp)).trans (fs.mono (fun i h => .inl h))
    have L3 := Left.trans (r1' := r) (r2' := none) F (by
      rintro i (rfl | hi | hi)
      · exact .inl (.inl rfl)
      · exact .inr (Nat.le_trans (by simp) (k2 i hi))
      · cases hi) L2
    simp only [ptr_eq, iv_eq] at e2 q1
    obtain ⟨b', n', cp', rfl⟩ := k1.sl.slice
    obtain ⟨b1, m1, cp1, rfl⟩ := g2.sl.slice
    obtain ⟨b2, m2, cp2, rfl⟩ := g3.sl.slice
    simp [Try.f45, e0, c]
    refine region_plan (pl := [(some (0, 2)), none, none, none, none, none, none, none, none, none, none, none, none, none, none, none, none]) (by exact plan45) ?_
    simp [g1, e1, q1, Heap.get_set _ _ _ hp1, e2]
    exact L3
  · have c' : s.is pid = false := by simpa using c
    simp [Try.f45, e0, c']
    exact Left.refl h
end
theorem quiet25 : quiet Try.prog (drawN Try.f25 0) = true := by decide +kernel
theorem ints_true {H : Heap} {v1 v2 : Value} {xs : List Int} (h1 : SL H v1 xs) (h2 : SL H v2 xs) (hl : xs.length ≤ 1000000) : W.call 25 [v1, v2] H = some (.val (.bool true), H) := by
  have key : Gives (W.call 25 [v1, v2] H) fun o H' => o = .val (.bool true) ∧ H' = H := by
    obtain ⟨b1, c1, rfl, g1⟩ := id h1
    obtain ⟨b2, c2, rfl, g2⟩ := id h2
    rw [c25, callB, bodyOf]
    simp [Try.f25]
    refine loop_wp (fun m t H' => H' = H ∧ ∃ i, i + m = xs.length ∧ rd t 5 = .int .i64 i) xs.length ⟨rfl, 0, by omega, by simp⟩ ?_
    rintro m t H' hk ⟨rfl, i, hi, h5⟩
    have ht : t.length = 26 := hk.1.trans (by simp [len_Bs])
    have hh := hk.all [0, 1] (by decide +kernel)
    simp at hh
    obtain ⟨r0, r1⟩ := hh
    by_cases hm : m = 0
    · subst hm
      simp [ht, r0, r1, h5, show ¬ i < xs.length by omega]
    · have hn : i < xs.length := by omega
      rcases g1 with ⟨rfl, h0⟩ | ⟨ra, oa, ow, tl, es, cs, rfl, _⟩
      · rw [h0] at hn; simp at hn
      rcases g2 with ⟨rfl, h0⟩ | ⟨rb, ob, ow2, tl2, es2, cs2, rfl, _⟩
      · rw [h0] at hn; simp at hn
      obtain ⟨_, d1, k1, _, k2⟩ := h1.cell
      obtain ⟨_, d2, k3, _, k4⟩ := h2.cell
      simp [ht, r0, r1, h5, hn]
      refine region_quiet (by exact quiet25) ?_
      simp [ht, r0, r1, h5, hn, k1, k3, k2 i hn, k4 i hn, wrap64 ((i : Int) + 1) (by omega) (by omega)]
      exact ⟨m - 1, by omega, i + 1, by omega, by simp⟩
  obtain ⟨o, H', h, rfl, rfl⟩ := key
  exact h


/-! ### The reference -/
section
variable {H : Heap} {p : Nat} {r1 r2 : Option Nat} {s : Rg} (h : IsG H p r1 r2 s) (hl : s.size ≤ 900)
set_option linter.unusedSectionVars false
include h
theorem pass_run (hl : s.size ≤ 1000) : Gives (W.call 61 [ptr p] H) fun o H' => o = .val (iv s.next.1) ∧ Left H H' p r1 r2 s.next.2 := by
  obtain ⟨⟨v1, v2, g1, g2, g3⟩, n1, n2, n12⟩ := id h
  unfold Rg.size at hl
  have hp := Heap.lt_of_get g1 (by simp)
  have hlen : ∀ H', exLen Try.prog [37] v1 H' = some (.int .i64 s.entry.length) := by
    obtain ⟨base, cap, rfl, _⟩ := g2.sl
    intro H'; simp [exLen, Try.underlying37]
  rw [c61, callB, bodyOf]
  unfold Rg.next
  cases hs : s.entry with
  | nil =>
    rw [hs] at hlen g2
    simp at hlen
    simp [Try.f61, g1, Heap.get_set _ _ _ hp, hlen]
    have f := Same.set (X := (· = p)) H hp rfl (.row true 0 1 [.int .i64 0, v1, v2])
    exact ⟨r1, r2, ⟨⟨v1, v2, Heap.get_set_self _ _ hp, g2.same f (fun i hi e => n1 (by rw [hi, e])), g3.same f (fun i hi e => n2 (by rw [hi, e]))⟩, n1, n2, n12⟩, f.mono (fun i h => .inl h), fun i hi => .inl hi⟩
  | cons x xs =>
    rw [hs] at hlen g2 hl
    simp at hl
    have f0 := (Same.set (X := (· = p)) H hp rfl (.row true 0 1 [iv 0, v1, v2])).trans (Same.set (X := (· = p)) (H.set p (.row true 0 1 [iv 0, v1, v2])) (by simpa using hp) rfl (.row true 0 1 [iv x, v1, v2]))
    rw [Heap.set_set] at f0
    have G := g2.same f0 (fun i hi e => n1 (by rw [hi, e]))
    obtain ⟨id1, off, cs, tl, rfl, rfl, h6, h9⟩ := g2.cons
    have hpr : ¬ id1 = p := fun e => n1 (by rw [e])
    obtain ⟨v', r', H1, e1, k1, f1, m1, _⟩ := tail_run intT G
    obtain ⟨o, H2, e2, vc, rc, rfl, hrc, k2, f2⟩ := copy57 k1.sl (by omega)
    have q1 : H1.get p = _ := f1.at (Heap.get_set_self _ _ hp) (by simp) n1
    have q2 : H2.get p = _ := f2.at q1 (by simp) (fun h => h)
    have hp2 := Heap.lt_of_get q2 (by simp)
    simp only [iv_eq] at e1 q1 q2 h9
    obtain ⟨b', n', cp', rfl⟩ := k2.sl.slice
    simp [Try.f61, g1, Heap.get_set _ _ _ hp, Heap.get_set _ _ _ hp2, hlen, h6, h9, hpr, e1, e2, q1, q2, show 0 < (xs.length : Int) + 1 by omega]
    have f3 := Same.set (X := (· = p)) H2 hp2 rfl (.row true 0 1 [iv x, .slice b' n' cp', v2])
    have hn1 := f0.n
    have hn2 := f1.n
    refine ⟨some rc, r2, ⟨⟨.slice b' n' cp', v2, Heap.get_set_self _ _ hp2, k2.same f3 (fun i hi => by simp at hi; omega), ?_⟩, by simp; omega, n2, ?_⟩, ?_, ?_⟩
    · exact (((g3.same f0 (fun i hi e => n2 (by rw [hi, e]))).same f1 (fun i hi e => n12 i e hi)).same f2 (fun _ _ h => h)).same f3 (fun i hi e => n2 (by rw [hi, e]))
    · intro i hi hj
      have := g3.lt hj
      simp at hi; omega
    · exact (((f0.mono (fun i h => .inl h)).trans (f1.mono (fun i h => .inr (.inl h)))).trans (f2.mono (by simp))).trans (f3.mono (fun i h => .inl h))
    · rintro i (rfl | hi | hi)
      · exact .inl (.inl rfl)
      · exact .inr (by simp at hi; omega)
      · exact .inl (.inr (.inr hi))

theorem renter_run (hl : s.size ≤ 900) (pid : Int) : Gives (W.call 42 [ptr p, iv pid] H) fun o H' => o = .val (.bool (s.enter pid).1) ∧ Left H H' p r1 r2 (s.enter pid).2 := by
  obtain ⟨⟨v1, v2, g1, g2, g3⟩, n1, n2, n12⟩ := id h
  unfold Rg.size at hl
  have hp := Heap.lt_of_get g1 (by simp)
  rw [c42, callB, bodyOf]
  unfold Rg.enter
  by_cases c1 : pid < 1
  · simp [Try.f42, c1]
    exact Left.refl h
  by_cases c2 : s.inn = 0
  · simp [Try.f42, c1, c2, g1]
    have f := Same.set (X := (· = p)) H hp rfl (.row true 0 1 [iv pid, v1, v2])
    exact ⟨r1, r2, ⟨⟨v1, v2, Heap.get_set_self _ _ hp, g2.same f (fun i hi e => n1 (by rw [hi, e])), g3.same f (fun i hi e => n2 (by rw [hi, e]))⟩, n1, n2, n12⟩, f.mono (fun i h => .inl h), fun i hi => .inl hi⟩
  · obtain ⟨o, H0, e0, vc, rc, rfl, hrc, g0, f0⟩ := copy57 g2.sl (by omega)
    have f1 := Same.push (fun _ => False) H0 (.row true 0 1 [.int .i64 pid])
    obtain ⟨v', r', H1, e1, k2, f2, f3⟩ := grow_run intT (x := .slice (some ⟨H0.n, 0, none⟩) 1 1) (ys := [pid]) (g0.same f1 (fun _ _ h => h)) ⟨_, _, rfl, .inr ⟨H0.n, 0, true, 0, 1, _, rfl, by simp; rfl, by simp, by simp⟩⟩ (by simp; omega)
    have hn0 := f0.n
    have q1 : H1.get p = _ := f2.at (f1.at (f0.at g1 (by simp) (fun h => h)) (by simp) (fun h => h)) (by simp) (by simp; omega)
    have hp1 := Heap.lt_of_get q1 (by simp)
    obtain ⟨b', n', cp', rfl⟩ := k2.sl.slice
    simp [Try.f42, c1, c2, g1, e0, e1, q1]
    have hs : Same (fun _ => False) H H1 := by
      refine ⟨Nat.le_trans (Nat.le_trans f0.n f1.n) f2.n, fun i hi _ => ?_⟩
      rw [f2.get i (Nat.lt_of_lt_of_le hi (Nat.le_trans f0.n f1.n)) (by simp; omega), f1.get i (Nat.lt_of_lt_of_le hi f0.n) (fun h => h), f0.get i hi (fun h => h)]
    have f4 : Newer H none r' := (Newer.new (r := none) hrc).trans f3 (Nat.le_trans f0.n f1.n)
    have f5 := Same.set (X := (· = p)) H1 hp1 rfl (.row true 0 1 [iv s.inn, .slice b' n' cp', v2])
    refine ⟨r', r2, ⟨⟨.slice b' n' cp', v2, Heap.get_set_self _ _ hp1, k2.same f5 (f4.ne hp (by simp)), ?_⟩, fun e => f4.ne hp (by simp) p e rfl, n2, ?_⟩, (hs.mono (by simp)).trans (f5.mono (fun i h => .inl h)), ?_⟩
    · exact (g3.same hs (fun _ _ h => h)).same f5 (fun i hi e => n2 (by rw [hi, e]))
    · intro i hi hj
      exact (f4 i hi).elim (fun k => by cases k) (fun k => by have := g3.lt hj; omega)
    · rintro i (rfl | hi | hi)
      · exact .inl (.inl rfl)
      · exact (f4 i hi).elim (fun k => by cases k) .inr
      · exact .inl (.inr (.inr hi))
theorem rfail_run (hl : s.size ≤ 900) (pid : Int) : Gives (W.call 44 [ptr p, iv pid] H) fun o H' => o = .val (.tuple #[iv (s.fail pid).1, .bool (s.fail pid).2.1]) ∧ Left H H' p r1 r2 (s.fail pid).2.2 := by
  obtain ⟨⟨v1, v2, g1, g2, g3⟩, n1, n2, n12⟩ := id h
  unfold Rg.size at hl
  have hp := Heap.lt_of_get g1 (by simp)
  rw [c44, callB, bodyOf]
  unfold Rg.fail
  by_cases c : s.is pid = true
  · have cc := c
    unfold Rg.is at cc
    obtain ⟨c0, c2⟩ := of_decide_eq_true cc
    subst c2
    obtain ⟨o, H0, e0, vc, rc, rfl, hrc, g0, f0⟩ := copy57 g3.sl (by omega)
    have f1 := Same.push (fun _ => False) H0 (.row true 0 1 [.int .i64 s.inn])
    obtain ⟨v', r', H1, e1, k2, f2, f3⟩ := grow_run intT (x := .slice (some ⟨H0.n, 0, none⟩) 1 1) (ys := [s.inn]) (g0.same f1 (fun _ _ h => h)) ⟨_, _, rfl, .inr ⟨H0.n, 0, true, 0, 1, _, rfl, by simp; rfl, by simp, by simp⟩⟩ (by simp; omega)
    have hn0 := f0.n
    have q1 : H1.get p = _ := f2.at (f1.at (f0.at g1 (by simp) (fun h => h)) (by simp) (fun h => h)) (by simp) (by simp; omega)
    have hp1 := Heap.lt_of_get q1 (by simp)
    obtain ⟨b', n', cp', rfl⟩ := k2.sl.slice
    have hs : Same (fun _ => False) H H1 := by
      refine ⟨Nat.le_trans (Nat.le_trans f0.n f1.n) f2.n, fun i hi _ => ?_⟩
      rw [f2.get i (Nat.lt_of_lt_of_le hi (Nat.le_trans f0.n f1.n)) (by simp; omega), f1.get i (Nat.lt_of_lt_of_le hi f0.n) (fun h => h), f0.get i hi (fun h => h)]
    have f4 : Newer H none r' := (Newer.new (r := none) hrc).trans f3 (Nat.le_trans f0.n f1.n)
    have f5 := Same.set (X := (· = p)) H1 hp1 rfl (.row true 0 1 [iv s.inn, v1, .slice b' n' cp'])
    have G2 : IsG (H1.set p (.row true 0 1 [iv s.inn, v1, .slice b' n' cp'])) p r1 r' { s with waits := s.waits ++ [s.inn] } := by
      refine ⟨⟨v1, .slice b' n' cp', Heap.get_set_self _ _ hp1, (g2.same hs (fun _ _ h => h)).same f5 (fun i hi e => n1 (by rw [hi, e])), k2.same f5 (f4.ne hp (by simp))⟩, n1, fun e => f4.ne hp (by simp) p e rfl, ?_⟩
      intro i hi hj
      exact (f4 i hj).elim (fun k => by cases k) (fun k => by have := g2.lt hi; omega)
    obtain ⟨o, H2, e2, rfl, L2⟩ := pass_run G2 (by unfold Rg.size; simp; omega)
    have L3 := Left.trans (r1' := r1) (r2' := r') (r1 := r1) (r2 := r2) ((hs.mono (by simp)).trans (f5.mono (fun i h => .inl h))) (by
      rintro i (rfl | hi | hi)
      · exact .inl (.inl rfl)
      · exact .inl (.inr (.inl hi))
      · exact (f4 i hi).elim (fun k => by cases k) .inr) L2
    simp only [ptr_eq, iv_eq] at e2
    simp [Try.f44, c, show ¬ s.inn < 1 by omega, g1, e0, e1, q1, e2]
    exact L3
  · have cc := c
    unfold Rg.is at cc
    have c0 : ¬ (0 < pid ∧ s.inn = pid) := fun h => cc (decide_eq_true h)
    simp only [c]
    by_cases c1 : pid < 1
    · simp [Try.f44, c1]
      exact Left.refl h
    · simp [Try.f44, c1, g1, show ¬ s.inn = pid by omega]
      exact Left.refl h
theorem rleave_run (hl : s.size ≤ 900) (pid : Int) : Gives (W.call 46 [ptr p, iv pid] H) fun o H' => o = .val (.tuple #[iv (s.leave pid).1, .bool (s.leave pid).2.1]) ∧ Left H H' p r1 r2 (s.leave pid).2.2 := by
  obtain ⟨⟨v1, v2, g1, g2, g3⟩, n1, n2, n12⟩ := id h
  unfold Rg.size at hl
  have hp := Heap.lt_of_get g1 (by simp)
  rw [c46, callB, bodyOf]
  unfold Rg.leave
  by_cases c : s.is pid = true
  · have cc := c
    unfold Rg.is at cc
    obtain ⟨c0, c2⟩ := of_decide_eq_true cc
    subst c2
    obtain ⟨o, H0, e0, vc, rc, rfl, hrc, g0, f0⟩ := copy57 g3.sl (by omega)
    obtain ⟨v', r', H1, e1, k2, f2, f3⟩ := grow_run intT g0 (g2.sl.same f0.all) (by omega)
    have hn0 := f0.n
    have q0 : H0.get p = _ := f0.at g1 (by simp) (fun h => h)
    have q1 : H1.get p = _ := f2.at q0 (by simp) (by simp; omega)
    have hp1 := Heap.lt_of_get q1 (by simp)
    obtain ⟨b', n', cp', rfl⟩ := k2.sl.slice
    have hs : Same (fun _ => False) H H1 := by
      refine ⟨Nat.le_trans f0.n f2.n, fun i hi _ => ?_⟩
      rw [f2.get i (Nat.lt_of_lt_of_le hi f0.n) (by simp; omega), f0.get i hi (fun h => h)]
    have f4 : Newer H none r' := (Newer.new (r := none) hrc).trans f3 f0.n
    have f5 := Same.set (X := (· = p)) H1 hp1 rfl (.row true 0 1 [iv s.inn, .slice b' n' cp', .slice none 0 0])
    have G2 : IsG (H1.set p (.row true 0 1 [iv s.inn, .slice b' n' cp', .slice none 0 0])) p r' none { s with entry := s.waits ++ s.entry, waits := [] } :=
      ⟨⟨.slice b' n' cp', .slice none 0 0, Heap.get_set_self _ _ hp1, k2.same f5 (f4.ne hp (by simp)), GL.nil _⟩, fun e => f4.ne hp (by simp) p e rfl, by simp, by simp⟩
    obtain ⟨o, H2, e2, rfl, L2⟩ := pass_run G2 (by unfold Rg.size; simp; omega)
    have L3 := Left.trans (r1' := r') (r2' := none) (r1 := r1) (r2 := r2) ((hs.mono (by simp)).trans (f5.mono (fun i h => .inl h))) (by
      rintro i (rfl | hi | hi)
      · exact .inl (.inl rfl)
      · exact (f4 i hi).elim (fun k => by cases k) .inr
      · cases hi) L2
    simp only [ptr_eq, iv_eq] at e2 q0 q1
    obtain ⟨b1, m1, cp1, rfl⟩ := g2.sl.slice
    simp [Try.f46, c, show ¬ s.inn < 1 by omega, g1]
    refine region_plan (by exact plan46) ?_
    simp [g1, e0, e1, q0, q1, Heap.get_set _ _ _ hp1, e2]
    exact L3
  · have cc := c
    unfold Rg.is at cc
    have c0 : ¬ (0 < pid ∧ s.inn = pid) := fun h => cc (decide_eq_true h)
    simp only [c]
    by_cases c1 : pid < 1
    · simp [Try.f46, c1]
      exact Left.refl h
    · simp [Try.f46, c1, g1, show ¬ s.inn = pid by omega]
      exact Left.refl h
end
end Go.Vm.RegionLaw
