/- What is proved: the semaphores' other laws hand back true, whatever the input. -/
import Derived.Test.YtifbhohifhnkiaaSemaLaws
namespace Go.Vm.SemaLaw
open Go Go.Proofs
set_option maxRecDepth 100000
set_option linter.unusedSimpArgs false
attribute [local simp] repCells_succ writeAt rd_Fr

theorem nothing_walk (n : Int) (_ : Lit.wf (.int .i64 n) = true) (pid : Int) (_ : Lit.wf (.int .i64 pid) = true) : Gives (W.call 10 [.int .i64 n, .int .i64 pid] Heap.empty) fun o _ => o = .val (.bool true) := by
  rw [c10, callB, bodyOf]
  have q30 : ∀ H, W.call 30 [.pointer none, .int .i64 pid] H = some (.val (.bool false), H) := by intro H; rw [c30, callB, bodyOf]; simp [Try.f30]
  have q32 : ∀ H, W.call 32 [.pointer none] H = some (.val (.int .i64 0), H) := by intro H; rw [c32, callB, bodyOf]; simp [Try.f32]
  have q34 : ∀ H, W.call 34 [.pointer none] H = some (.val (.int .i64 0), H) := by intro H; rw [c34, callB, bodyOf]; simp [Try.f34]
  have q35 : ∀ H, W.call 35 [.pointer none] H = some (.val (.int .i64 0), H) := by intro H; rw [c35, callB, bodyOf]; simp [Try.f35]
  have q36 : ∀ H, W.call 36 [.pointer none] H = some (.val (.int .i64 0), H) := by intro H; rw [c36, callB, bodyOf]; simp [Try.f36]
  have q37 : ∀ H, W.call 37 [.pointer none] H = some (.val (.int .i64 0), H) := by intro H; rw [c37, callB, bodyOf]; simp [Try.f37]
  have q38 : ∀ H, W.call 38 [.pointer none] H = some (.val (.slice none 0 0), H) := by intro H; rw [c38, callB, bodyOf]; simp [Try.f38]
  by_cases c1 : n < 0 ∨ 1000 < n
  · by_cases c2 : 0 ≤ n
    · simp [Try.f10, awake_true, new_bad _ n c1, q30, q32, q34, q35, q36, q37, q38, show ¬ n ≤ 1000 by omega, c2]
    · simp [Try.f10, awake_true, new_bad _ n c1, q30, q32, q34, q35, q36, q37, q38, c2]
  · obtain ⟨o1, H1, e1, rfl, g1, f1⟩ := new_ok Heap.empty n c1 trivial
    simp only [ptr_eq] at e1
    simp [Try.f10, awake_true, e1, q30, q32, q34, q35, q36, q37, q38, show 0 ≤ n by omega, show n ≤ 1000 by omega]

/-- What is so behind each step. -/
structure Cnt (n : Int) (s : Sm) : Prop where
  val : s.value = n + s.vs - s.ps
  pos : 0 ≤ s.value
  free : 0 < s.value → s.waits = []
  pids : ∀ x ∈ s.waits, 0 < x
theorem Cnt.p {n : Int} {s : Sm} (h : Cnt n s) (x : Int) (hx : 0 < x) : Cnt n (s.p x).2 ∧ (s.p x).2.ps = s.ps + (if (s.p x).1 = true then 1 else 0) ∧ (s.p x).2.vs = s.vs := by
  obtain ⟨h1, h2, h3, h4⟩ := h
  unfold Sm.p
  rw [if_neg (by omega)]
  by_cases c : 0 < s.value
  · rw [if_pos c]
    refine ⟨⟨?_, ?_, ?_, h4⟩, by simp, rfl⟩
    · simp; omega
    · simp; omega
    · intro _; exact h3 c
  · rw [if_neg c]
    refine ⟨⟨h1, h2, fun h => absurd h c, ?_⟩, by simp, rfl⟩
    intro y hy
    simp only [List.mem_append, List.mem_singleton] at hy
    exact hy.elim (h4 y) (fun e => by omega)
theorem Cnt.v {n : Int} {s : Sm} (h : Cnt n s) : Cnt n s.v.2 ∧ s.v.2.ps = s.ps + (if s.v.1 = 0 then 0 else 1) ∧ s.v.2.vs = s.vs + 1 := by
  obtain ⟨h1, h2, h3, h4⟩ := h
  unfold Sm.v
  cases hw : s.waits with
  | nil =>
    simp only [hw]
    refine ⟨⟨?_, ?_, fun _ => rfl, fun x hx => by simp at hx⟩, by simp, trivial⟩
    · simp; omega
    · simp; omega
  | cons x xs =>
    rw [hw] at h3 h4
    have hx := h4 x (by simp)
    have h0 : ¬ 0 < s.value := fun h => by have := h3 h; cases this
    refine ⟨⟨?_, ?_, fun h => absurd h h0, fun y hy => h4 y (List.mem_cons_of_mem _ hy)⟩, ?_, rfl⟩
    · simp; omega
    · simp; omega
    · simp; omega

theorem counts_loop (n : Int) (hn : 0 ≤ n ∧ n ≤ 1000) {p : Nat} (len cap : Nat) (hl : len ≤ 200) (hc : len ≤ cap) (ls : List Value) (hls : ls.length = cap) (hint : ∀ c ∈ ls, isBool c) (t0 : List Value) (ht0 : t0.length = 89)
    (h0 : rd t0 0 = .int .i64 n) (h1 : rd t0 1 = .slice (some ⟨0, 0, none⟩) len cap) (h5 : rd t0 5 = ptr p) (h7 : rd t0 7 = .int .i64 0) (h8 : rd t0 8 = .int .i64 0) (h9 : rd t0 9 = .int .i64 0) (H0 : Heap) (s0 : Sm) (hs0 : s0.ok 0) (hc0 : Cnt n s0)
    (hp0 : p ≠ 0) (T0 : IsP H0 p none s0) (hg0 : H0.get 0 = .row false 0 0 ls) {Q : QA}
    (hQ : ∀ t l H, t.length = 89 → Q (.exit 0) ⟨Fr t l, []⟩ H) :
    Ends (W.code (.loop (loopN Try.f8 0)) ⟨t0, []⟩ H0) Q := by
  have hz : s0.ps = 0 ∧ s0.vs = 0 := by obtain ⟨_, _, a, b, c, d, _⟩ := hs0; omega
  refine loop_wp (fun m t H => ∃ i r s, i + m = len ∧ rd t 9 = .int .i64 (i : Nat) ∧ rd t 7 = .int .i64 s.ps ∧ rd t 8 = .int .i64 s.vs ∧ s.ok i ∧ Cnt n s ∧ IsP H p r s ∧ H.get 0 = .row false 0 0 ls ∧ r ≠ some 0) len ⟨0, none, s0, by omega, by simpa using h9, by rw [hz.1]; exact h7, by rw [hz.2]; exact h8, hs0, hc0, T0, hg0, by simp⟩ ?_
  rintro m t H hk ⟨i, r, s, hi, g9, g7, g8, hs, hcn, T, hlst, hr0⟩
  have ht : t.length = 89 := hk.1.trans ht0
  have hh := hk.all [0, 1, 5] (by decide +kernel)
  simp [h0, h1, h5] at hh
  obtain ⟨g0, g1, g5⟩ := hh
  have hn0 : 0 < H.n := Heap.lt_of_get hlst (by simp)
  by_cases hm : m = 0
  · subst hm
    simp [loopN, Try.f8, loopsOf, ht, g1, g7, g9, show ¬ i < len by omega]
    exact hQ _ _ _ ht
  · obtain ⟨b, hz⟩ := hint (ls[i]'(by omega)) (List.getElem_mem _)
    have hz' : ls[i]? = some (.bool b) := by rw [List.getElem?_eq_getElem (by omega), hz]
    have wt : ∀ (H1 : Heap) (r' : Option Nat) (s1 : Sm), IsP H1 p r' s1 → Cnt n s1 → s1.ok (i + 1) → H1.get 0 = .row false 0 0 ls → 0 < s1.value →
        ∃ b c H2, W.call 38 [.pointer (some ⟨p, 0, none⟩)] H1 = some (.val (.slice b 0 c), H2) ∧ IsP H2 p r' s1 ∧ H2.get 0 = .row false 0 0 ls := by
      intro H1 r' s1 k1 c1 ok1 l1 hv
      obtain ⟨v, H2, e, sl, f⟩ := waits_run k1 (by have := ok1.w; omega)
      rw [c1.free hv] at sl
      obtain ⟨b, c, rfl, _⟩ := sl
      exact ⟨b, c, H2, e, k1.same f (fun h => h) (fun _ _ h => h), f.at l1 (by simp) (fun h => h)⟩
    cases b with
    | true =>
      obtain ⟨o1, H1, e1, rfl, r', k1, f1, n1⟩ := p_run T hs (by omega) ((i : Int) + 1)
      obtain ⟨c1, c2, c3⟩ := hcn.p ((i : Int) + 1) (by omega)
      have hs1 := hs.p ((i : Int) + 1)
      have l1 := f1.at hlst (by simp) (fun e => e.elim (fun e => hp0 e.symm) hr0)
      have r1 : r' ≠ some 0 := fun e => (n1 0 e).elim hr0 (fun k => by omega)
      simp only [ptr_eq, iv_eq] at e1
      generalize (s.p ((i : Int) + 1)).1 = b1 at *
      generalize (s.p ((i : Int) + 1)).2 = s1 at *
      have w1 := value_run k1
      have w2 := ps_run k1
      have w3 := vs_run k1
      simp only [ptr_eq, iv_eq] at w1 w2 w3
      have hv := c1.val
      have hp := c1.pos
      have o1 := hs1.p0; have o2 := hs1.p1; have o3 := hs1.s0; have o4 := hs1.s1; have o5 := hs.p0; have o6 := hs.p1
      have hwt := wt H1 r' s1 k1 c1 hs1 l1
      rw [c3] at w3 hv o3 o4
      cases b1 with
      | true =>
        simp at c2
        rw [c2] at w2 hv o1 o2
        by_cases hv0 : 0 < s1.value
        · obtain ⟨vb, vc, H2, e38, k2, l2⟩ := hwt hv0
          simp [loopN, Try.f8, loopsOf, ht, g0, g1, g5, g7, g8, g9, show i < len by omega, hlst, hz', wrap64 ((i : Int) + 1) (by omega) (by omega), e1, w1, w2, w3, e38, wrap64 (s.ps + 1) (by omega) (by omega), wrap64 (n + s.vs) (by omega) (by omega), show IntKind.i64.wrap (n + s.vs - (s.ps + 1)) = s1.value by (rw [wrap64 _ (by omega) (by omega)]; omega), hv0, show ¬ s1.value < 0 by omega]
          exact ⟨m - 1, by omega, i + 1, by omega, by simp, r', s1, by simp [c2], by simp [c3], hs1, c1, k2, l2, r1⟩
        · simp [loopN, Try.f8, loopsOf, ht, g0, g1, g5, g7, g8, g9, show i < len by omega, hlst, hz', wrap64 ((i : Int) + 1) (by omega) (by omega), e1, w1, w2, w3, wrap64 (s.ps + 1) (by omega) (by omega), wrap64 (n + s.vs) (by omega) (by omega), show IntKind.i64.wrap (n + s.vs - (s.ps + 1)) = s1.value by (rw [wrap64 _ (by omega) (by omega)]; omega), hv0, show ¬ s1.value < 0 by omega]
          exact ⟨m - 1, by omega, i + 1, by omega, by simp, r', s1, by simp [c2], by simp [c3], hs1, c1, k1, l1, r1⟩
      | false =>
        simp at c2
        rw [c2] at w2 hv o1 o2
        by_cases hv0 : 0 < s1.value
        · obtain ⟨vb, vc, H2, e38, k2, l2⟩ := hwt hv0
          simp [loopN, Try.f8, loopsOf, ht, g0, g1, g5, g7, g8, g9, show i < len by omega, hlst, hz', wrap64 ((i : Int) + 1) (by omega) (by omega), e1, w1, w2, w3, e38, wrap64 (n + s.vs) (by omega) (by omega), show IntKind.i64.wrap (n + s.vs - s.ps) = s1.value by (rw [wrap64 _ (by omega) (by omega)]; omega), hv0, show ¬ s1.value < 0 by omega]
          exact ⟨m - 1, by omega, i + 1, by omega, by simp, r', s1, by simp [c2], by simp [c3], hs1, c1, k2, l2, r1⟩
        · simp [loopN, Try.f8, loopsOf, ht, g0, g1, g5, g7, g8, g9, show i < len by omega, hlst, hz', wrap64 ((i : Int) + 1) (by omega) (by omega), e1, w1, w2, w3, wrap64 (n + s.vs) (by omega) (by omega), show IntKind.i64.wrap (n + s.vs - s.ps) = s1.value by (rw [wrap64 _ (by omega) (by omega)]; omega), hv0, show ¬ s1.value < 0 by omega]
          exact ⟨m - 1, by omega, i + 1, by omega, by simp, r', s1, by simp [c2], by simp [c3], hs1, c1, k1, l1, r1⟩
    | false =>
      obtain ⟨o1, H1, e1, rfl, r', k1, f1, n1⟩ := v_run T hs (by omega)
      obtain ⟨c1, c2, c3⟩ := hcn.v
      have hs1 := hs.v
      have l1 := f1.at hlst (by simp) (fun e => e.elim (fun e => hp0 e.symm) hr0)
      have r1 : r' ≠ some 0 := fun e => (n1 0 e).elim hr0 (fun k => by omega)
      simp only [ptr_eq, iv_eq] at e1
      generalize s.v.1 = z1 at *
      generalize s.v.2 = s1 at *
      have w1 := value_run k1
      have w2 := ps_run k1
      have w3 := vs_run k1
      simp only [ptr_eq, iv_eq] at w1 w2 w3
      have hv := c1.val
      have hp := c1.pos
      have o1 := hs1.p0; have o2 := hs1.p1; have o3 := hs1.s0; have o4 := hs1.s1; have o5 := hs.p0; have o6 := hs.p1
      have hwt := wt H1 r' s1 k1 c1 hs1 l1
      rw [c3] at w3 hv o3 o4
      by_cases hz1 : z1 = 0
      · rw [if_pos hz1, Int.add_zero] at c2
        rw [c2] at w2 hv o1 o2
        by_cases hv0 : 0 < s1.value
        · obtain ⟨vb, vc, H2, e38, k2, l2⟩ := hwt hv0
          simp [loopN, Try.f8, loopsOf, ht, g0, g1, g5, g7, g8, g9, show i < len by omega, hlst, hz', wrap64 ((i : Int) + 1) (by omega) (by omega), e1, w1, w2, w3, e38, wrap64 (s.vs + 1) (by omega) (by omega), wrap64 (n + (s.vs + 1)) (by omega) (by omega), show IntKind.i64.wrap (n + (s.vs + 1) - s.ps) = s1.value by (rw [wrap64 _ (by omega) (by omega)]; omega), hv0, show ¬ s1.value < 0 by omega, hz1]
          exact ⟨m - 1, by omega, i + 1, by omega, by simp, r', s1, by simp [c2], by simp [c3], hs1, c1, k2, l2, r1⟩
        · simp [loopN, Try.f8, loopsOf, ht, g0, g1, g5, g7, g8, g9, show i < len by omega, hlst, hz', wrap64 ((i : Int) + 1) (by omega) (by omega), e1, w1, w2, w3, wrap64 (s.vs + 1) (by omega) (by omega), wrap64 (n + (s.vs + 1)) (by omega) (by omega), show IntKind.i64.wrap (n + (s.vs + 1) - s.ps) = s1.value by (rw [wrap64 _ (by omega) (by omega)]; omega), hv0, show ¬ s1.value < 0 by omega, hz1]
          exact ⟨m - 1, by omega, i + 1, by omega, by simp, r', s1, by simp [c2], by simp [c3], hs1, c1, k1, l1, r1⟩
      · rw [if_neg hz1] at c2
        rw [c2] at w2 hv o1 o2
        by_cases hv0 : 0 < s1.value
        · obtain ⟨vb, vc, H2, e38, k2, l2⟩ := hwt hv0
          simp [loopN, Try.f8, loopsOf, ht, g0, g1, g5, g7, g8, g9, show i < len by omega, hlst, hz', wrap64 ((i : Int) + 1) (by omega) (by omega), e1, w1, w2, w3, e38, wrap64 (s.vs + 1) (by omega) (by omega), wrap64 (s.ps + 1) (by omega) (by omega), wrap64 (n + (s.vs + 1)) (by omega) (by omega), show IntKind.i64.wrap (n + (s.vs + 1) - (s.ps + 1)) = s1.value by (rw [wrap64 _ (by omega) (by omega)]; omega), hv0, show ¬ s1.value < 0 by omega, hz1]
          exact ⟨m - 1, by omega, i + 1, by omega, by simp, r', s1, by simp [c2], by simp [c3], hs1, c1, k2, l2, r1⟩
        · simp [loopN, Try.f8, loopsOf, ht, g0, g1, g5, g7, g8, g9, show i < len by omega, hlst, hz', wrap64 ((i : Int) + 1) (by omega) (by omega), e1, w1, w2, w3, wrap64 (s.vs + 1) (by omega) (by omega), wrap64 (s.ps + 1) (by omega) (by omega), wrap64 (n + (s.vs + 1)) (by omega) (by omega), show IntKind.i64.wrap (n + (s.vs + 1) - (s.ps + 1)) = s1.value by (rw [wrap64 _ (by omega) (by omega)]; omega), hv0, show ¬ s1.value < 0 by omega, hz1]
          exact ⟨m - 1, by omega, i + 1, by omega, by simp, r', s1, by simp [c2], by simp [c3], hs1, c1, k1, l1, r1⟩
theorem counts_walk (n : Int) (_ : Lit.wf (.int .i64 n) = true) (x : Value) (o : AObj) (fa : FlatArg isBool 1 0 x o) : Gives (W.call 8 [.int .i64 n, x] (Heap.empty.push o)) fun o _ => o = .val (.bool true) := by
  obtain ⟨base, len, cap, ls, rfl, hc, _, hls, hint, hb⟩ := fa
  rw [c8, callB, bodyOf]
  by_cases c1 : n < 0
  · simp [Try.f8, awake_true, c1]
  by_cases c2 : 1000 < n
  · simp [Try.f8, awake_true, c1, c2]
  by_cases c0 : (200 : Int) < len
  · simp [Try.f8, awake_true, c0, c1, c2]
  obtain ⟨o1, H1, e1, rfl, g1, f1⟩ := new_ok (Heap.empty.push o) n (by omega) trivial
  simp only [ptr_eq] at e1
  simp [Try.f8, awake_true, c0, c1, c2, e1]
  rcases hb with ⟨rfl, rfl, rfl, rfl⟩ | ⟨rfl, rfl⟩
  · rw [code_loop]
    simp [awake_true]
  · have hg : (Heap.empty.push (.row false 0 0 ls)).get 0 = .row false 0 0 ls := Heap.get_push_self Heap.empty _
    refine counts_loop n (by omega) len cap (by omega) hc ls (by omega) hint _ (by simp [len_Bs]) (by simp) (by simp) (by simp) (by simp) (by simp) (by simp) _ ⟨n, n, 0, 0, []⟩ ?_ ?_ (by simp) g1 (f1.at hg (by simp) (fun h => h)) ?_
    · constructor <;> simp <;> omega
    · constructor <;> simp <;> omega
    · intro t l H ht
      simp [ht, awake_true]

/-- Who waits after so many P's. -/
def ids (a : Int) : Nat → List Int
  | 0 => []
  | k + 1 => a :: ids (a + 1) k
theorem ids_len (a : Int) (k : Nat) : (ids a k).length = k := by
  induction k generalizing a with
  | zero => rfl
  | succ k ih => simp [ids, ih]
theorem ids_snoc (a : Int) (k : Nat) : ids a k ++ [a + k] = ids a (k + 1) := by
  induction k generalizing a with
  | zero => simp [ids]
  | succ k ih =>
    show a :: (ids (a + 1) k ++ [a + ((k + 1 : Nat) : Int)]) = a :: ids (a + 1) (k + 1)
    rw [← ih (a + 1)]
    congr 3
    omega
/-- The semaphore after i P's of first, first + 1 .. -/
def after (v : Nat) (first : Int) (i : Nat) : Sm := if i ≤ v then ⟨v, v - i, i, 0, []⟩ else ⟨v, 0, v, 0, ids (first + v) (i - v)⟩
theorem after_le {v : Nat} {first : Int} {i : Nat} (h : i ≤ v) : after v first i = ⟨v, v - i, i, 0, []⟩ := if_pos h
theorem after_gt {v : Nat} {first : Int} {i : Nat} (h : ¬ i ≤ v) : after v first i = ⟨v, 0, v, 0, ids (first + v) (i - v)⟩ := if_neg h
theorem after_p (v : Nat) (first : Int) (hf : 1 ≤ first) (i : Nat) : (after v first i).p (first + i) = (decide (i < v), after v first (i + 1)) := by
  unfold Sm.p
  rw [if_neg (by omega)]
  by_cases h : i < v
  · rw [after_le (show i ≤ v by omega), after_le (show i + 1 ≤ v by omega), if_pos (by simp; omega)]
    simp [h]
    omega
  · by_cases h2 : i = v
    · subst h2
      rw [after_le (Nat.le_refl _), after_gt (by omega)]
      simp [ids]
    · rw [after_gt (show ¬ i ≤ v by omega), after_gt (show ¬ i + 1 ≤ v by omega)]
      simp [h]
      rw [show i + 1 - v = (i - v) + 1 by omega, ← ids_snoc]
      congr 2
      omega
/-- And after j V's. -/
def back (v n : Nat) (first : Int) (j : Nat) : Sm := ⟨v, 0, v + j, j, ids (first + v + j) (n - j)⟩
theorem back_v (v n : Nat) (first : Int) (j : Nat) (h : j < n) : (back v n first j).v = (first + v + j, back v n first (j + 1)) := by
  unfold Sm.v back
  rw [show n - j = (n - (j + 1)) + 1 by omega]
  simp [ids, Int.add_assoc]
theorem back_end (v n : Nat) (first : Int) : (back v n first n).v = (0, ⟨v, 1, v + n, n + 1, []⟩) := by
  unfold Sm.v back
  simp [ids]
theorem after_back (v n : Nat) (first : Int) : after v first (v + n) = back v n first 0 := by
  unfold after back
  by_cases h : n = 0
  · subst h; simp [ids]
  · rw [if_neg (by omega), show v + n - v = n by omega]
    simp
theorem after_ok (v : Nat) (hv : v ≤ 50) (first : Int) (i : Nat) (hi : i ≤ 110) : (after v first i).ok 200 := by
  unfold after
  split
  · constructor <;> simp <;> omega
  · constructor <;> simp [ids_len] <;> omega
theorem back_ok (v n : Nat) (hv : v ≤ 50) (hn : n ≤ 60) (first : Int) (j : Nat) (hj : j ≤ n) : (back v n first j).ok 200 := by
  unfold back
  constructor <;> simp [ids_len] <;> omega

theorem order_walk (n : Int) (_ : Lit.wf (.int .i64 n) = true) (m : Int) (_ : Lit.wf (.int .i64 m) = true) (first : Int) (_ : Lit.wf (.int .i64 first) = true) : Gives (W.call 9 [.int .i64 n, .int .i64 m, .int .i64 first] Heap.empty) fun o _ => o = .val (.bool true) := by
  rw [c9, callB, bodyOf]
  by_cases c1 : n < 0
  · simp [Try.f9, awake_true, c1]
  by_cases c2 : 50 < n
  · simp [Try.f9, awake_true, c1, c2]
  by_cases c3 : m < 0
  · simp [Try.f9, awake_true, c1, c2, c3]
  by_cases c4 : 60 < m
  · simp [Try.f9, awake_true, c1, c2, c3, c4]
  by_cases c5 : first < 1
  · simp [Try.f9, awake_true, c1, c2, c3, c4, c5]
  by_cases c6 : 1000000 < first
  · simp [Try.f9, awake_true, c1, c2, c3, c4, c5, c6]
  obtain ⟨v, rfl⟩ : ∃ v : Nat, n = v := ⟨n.toNat, by omega⟩
  obtain ⟨k, rfl⟩ : ∃ v : Nat, m = v := ⟨m.toNat, by omega⟩
  obtain ⟨o1, H1, e1, rfl, g1, f1⟩ := new_ok Heap.empty v (by omega) trivial
  have s0 : (⟨v, v, 0, 0, []⟩ : Sm) = after v first 0 := by simp [after]
  rw [s0] at g1
  generalize Heap.empty.n = p at *
  simp only [ptr_eq] at e1
  simp [Try.f9, awake_true, c1, c2, c3, c4, c5, c6, e1]
  refine loop_wp (fun m t H => ∃ i r, i + m = v + k ∧ rd t 9 = .int .i64 (i : Nat) ∧ IsP H p r (after v first i)) (v + k) ⟨0, none, by omega, by simp, g1⟩ ?_
  rintro m t H hk ⟨i, r, hi, g9, T⟩
  have ht : t.length = 90 := hk.1.trans (by simp [len_Bs])
  have hh := hk.all [0, 1, 2, 7] (by decide +kernel)
  simp at hh
  obtain ⟨a0, a1, a2, a7⟩ := hh
  by_cases hm : m = 0
  · subst hm
    obtain rfl : i = v + k := by omega
    rw [after_back] at T
    simp [ht, a0, a1, a2, a7, g9, wrap64 ((v : Int) + k) (by omega) (by omega)]
    refine loop_wp (fun m t H => ∃ i r, i + m = k ∧ rd t 10 = .int .i64 (i : Nat) ∧ IsP H p r (back v k first i)) k ⟨0, r, by omega, by simp [ht], T⟩ ?_
    rintro m2 t2 H2 hk2 ⟨j, r2, hj, g10, T2⟩
    have ht2 : t2.length = 90 := hk2.1.trans (by simp [ht])
    have hh := hk2.all [0, 1, 2, 7] (by decide +kernel)
    simp [ht, a0, a1, a2, a7] at hh
    obtain ⟨b0, b1, b2, b7⟩ := hh
    by_cases hm2 : m2 = 0
    · subst hm2
      obtain rfl : j = k := by omega
      obtain ⟨o1, H1, e1, rfl, r', k1, f1, n1⟩ := v_run T2 (back_ok v j (by omega) (by omega) first j (by omega)) (by omega)
      rw [back_end] at e1 k1
      have w1 := value_run k1
      simp only [ptr_eq, iv_eq] at e1 w1
      simp [ht2, b0, b1, b2, b7, g10, e1, w1, awake_true]
    · obtain ⟨vv, H3, e3, sl, f3⟩ := waits_run T2 (by have := (back_ok v k (by omega) (by omega) first j (by omega)).w; omega)
      have T3 := T2.same f3 (fun h => h) (fun _ _ h => h)
      obtain ⟨o1, H4, e4, rfl, r', k1, f1, n1⟩ := v_run T3 (back_ok v k (by omega) (by omega) first j (by omega)) (by omega)
      rw [back_v v k first j (by omega)] at e4 k1
      have hl : (back v k first j).waits.length = k - j := by simp [back, ids_len]
      obtain ⟨bb, cc, rfl, _⟩ := sl
      rw [hl] at e3
      simp only [ptr_eq, iv_eq] at e3 e4
      simp [ht2, b0, b1, b2, b7, g10, e3, e4, show j < k by omega, wrap64 ((k : Int) - j) (by omega) (by omega), wrap64 (first + v) (by omega) (by omega), wrap64 (first + v + j) (by omega) (by omega), wrap64 ((j : Int) + 1) (by omega) (by omega), show ((k - j : Nat) : Int) = (k : Int) - j by omega]
      exact ⟨m2 - 1, by omega, j + 1, by omega, by simp, r', k1⟩
  · obtain ⟨o1, H1, e1, rfl, r', k1, f1, n1⟩ := p_run T (after_ok v (by omega) first i (by omega)) (by omega) (first + i)
    rw [after_p v first (by omega) i] at e1 k1
    simp only [ptr_eq, iv_eq] at e1
    simp [ht, a0, a1, a2, a7, g9, wrap64 ((v : Int) + k) (by omega) (by omega), show (i : Int) < v + k by omega, wrap64 (first + i) (by omega) (by omega), e1, wrap64 ((i : Int) + 1) (by omega) (by omega)]
    exact ⟨m - 1, by omega, i + 1, by omega, by simp, r', k1⟩
end Go.Vm.SemaLaw
