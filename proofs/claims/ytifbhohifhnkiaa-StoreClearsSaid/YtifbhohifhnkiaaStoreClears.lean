/- What is proved: 'signalboxlaw2.StoreClears' hands back true, whatever the input. -/
import Derived.Test.YtifbhohifhnkiaaStore
namespace Go.Vm.StoreLaw
open Go Go.Proofs
set_option maxRecDepth 100000
set_option linter.unusedSimpArgs false
attribute [local simp] rd_Fr

theorem writeAt_get (cs : List Value) (off : Nat) (vs : List Value) (h : off + vs.length ≤ cs.length) (j : Nat) : (writeAt cs off vs)[j]? = if off ≤ j ∧ j < off + vs.length then vs[j - off]? else cs[j]? := by
  unfold writeAt
  rcases Nat.lt_or_ge j off with h1 | h1
  · rw [List.getElem?_append_left (by simp; omega), List.getElem?_take_of_lt h1, if_neg (by omega)]
  · rw [List.getElem?_append_right (by simp; omega)]
    have e : (cs.take off).length = off := by simp; omega
    rw [e]
    rcases Nat.lt_or_ge j (off + vs.length) with h2 | h2
    · rw [List.getElem?_append_left (by omega), if_pos ⟨h1, h2⟩]
    · rw [List.getElem?_append_right (by omega), if_neg (by omega), List.getElem?_drop]
      congr 1
      omega
def filled (n i : Nat) : List Value := (List.range n).map fun j => .int .i64 (if j < i then (j : Int) + 1 else 0)
theorem filled_len (n i : Nat) : (filled n i).length = n := by simp [filled]
theorem filled_succ (n i : Nat) (h : i < n) : (filled n i).set i (.int .i64 ((i : Int) + 1)) = filled n (i + 1) := by
  apply List.ext_getElem
  · simp [filled]
  · intro j h1 h2
    simp only [filled, List.getElem_set, List.getElem_map, List.getElem_range]
    by_cases e : i = j
    · subst e; simp
    · rw [if_neg e]
      by_cases e2 : j < i
      · rw [if_pos e2, if_pos (by omega)]
      · rw [if_neg e2, if_neg (by omega)]
theorem filled_zero (n : Nat) : filled n 0 = List.replicate n (.int .i64 0) := by
  apply List.ext_getElem
  · simp [filled]
  · intro j h1 h2; simp [filled]

theorem loop0 (n : Nat) (hn : n ≤ 300) (p q : Nat) : ∀ m t H, (t.length = 110 ∧ rd t 0 = .int .i64 n ∧ rd t 7 = .pointer (some ⟨p, 0, none⟩) ∧ ∃ i, i + m = n ∧ rd t 9 = .int .i64 i ∧ IsStore H p q (filled n i)) →
    Ends (W.code (.loop (loopN Try.f5 0)) ⟨t, []⟩ H) fun e s H' => e = .exit 0 ∧ s.ds = [] ∧ IsStore H' p q (filled n n) := by
  refine loop_ends _ ?_
  rintro m t H ⟨ht, h0, h7, i, hi, h9, hs⟩
  rw [← Fr_nil t]
  by_cases hm : m = 0
  · subst hm
    obtain rfl : i = n := by omega
    simpa [loopN, Try.f5, loopsOf, ht, h0, h7, h9] using hs
  · obtain ⟨H2, e1, S1⟩ := put_store hs i (i + 1) (by simp [filled]; omega)
    rw [filled_succ n i (by omega)] at S1
    simp [loopN, Try.f5, loopsOf, ht, h0, h7, h9, show i < n by omega, wrap64 ((i : Int) + 1) (by omega) (by omega), e1]
    exact ⟨m - 1, by omega, i + 1, by omega, by simp, S1⟩

theorem loop1 (n : Nat) (hn : n ≤ 300) (k x : Int) (may : Bool) (hm : may = true → 0 ≤ k ∧ 0 ≤ x ∧ k + x ≤ n) (a c tl : Nat) (ws : List Value) (hl : ws.length = n)
    (hws : ∀ j, j < n → ws[j]? = some (.int .i64 (if may = true ∧ k ≤ j ∧ (j : Int) < k + x then 0 else (j : Int) + 1))) :
    ∀ m t H, (t.length = 110 ∧ rd t 0 = .int .i64 n ∧ rd t 1 = .int .i64 k ∧ rd t 2 = .int .i64 x ∧ rd t 10 = .bool may ∧ rd t 11 = .slice (some ⟨a, 0, none⟩) n c ∧ H.get a = .row true tl 1 ws ∧ ∃ i, i + m = n ∧ rd t 12 = .int .i64 i) →
    Ends (W.code (.loop (loopN Try.f5 1)) ⟨t, []⟩ H) fun e s H' => e = .exit 2 ∧ s.ds = [] := by
  refine loop_ends _ ?_
  rintro m t H ⟨ht, h0, h1, h2, h10, h11, hg, i, hi, h12⟩
  rw [← Fr_nil t]
  by_cases hz : m = 0
  · subst hz
    obtain rfl : i = n := by omega
    simp [loopN, Try.f5, loopsOf, ht, h0, h12]
  · have hw := hws i (by omega)
    have hil : i < ws.length := by omega
    have hw2 : ws[i] = .int .i64 (if may = true ∧ k ≤ i ∧ (i : Int) < k + x then 0 else (i : Int) + 1) := by
      rw [List.getElem?_eq_getElem hil] at hw; simpa using hw
    cases may with
    | false =>
      simp [loopN, Try.f5, loopsOf, ht, h0, h1, h2, h10, h11, h12, show i < n by omega, wrap64 ((i : Int) + 1) (by omega) (by omega), hg, hil, hw2, show ¬ ((i : Int) + 1 = 0) by omega]
      exact ⟨m - 1, by omega, i + 1, by omega, by simp⟩
    | true =>
      obtain ⟨hk, hx, hkx⟩ := hm rfl
      by_cases c1 : k ≤ i
      · by_cases c2 : (i : Int) < k + x
        · simp [loopN, Try.f5, loopsOf, ht, h0, h1, h2, h10, h11, h12, show i < n by omega, wrap64 ((i : Int) + 1) (by omega) (by omega), wrap64 (k + x) (by omega) (by omega), hg, hil, hw2, c1, c2]
          exact ⟨m - 1, by omega, i + 1, by omega, by simp⟩
        · simp [loopN, Try.f5, loopsOf, ht, h0, h1, h2, h10, h11, h12, show i < n by omega, wrap64 ((i : Int) + 1) (by omega) (by omega), wrap64 (k + x) (by omega) (by omega), hg, hil, hw2, c1, c2, show ¬ ((i : Int) + 1 = 0) by omega]
          exact ⟨m - 1, by omega, i + 1, by omega, by simp⟩
      · simp [loopN, Try.f5, loopsOf, ht, h0, h1, h2, h10, h11, h12, show i < n by omega, wrap64 ((i : Int) + 1) (by omega) (by omega), wrap64 (k + x) (by omega) (by omega), hg, hil, hw2, c1, show ¬ ((i : Int) + 1 = 0) by omega]
        exact ⟨m - 1, by omega, i + 1, by omega, by simp⟩

theorem clears_run (n k x : Int) : Gives (W.call 5 [.int .i64 n, .int .i64 k, .int .i64 x] Heap.empty) fun o _ => o = .val (.bool true) := by
  rw [call_fn Try.func5 rfl (by decide +kernel) rfl]
  by_cases h0 : n < 0
  · simp [Try.f5, awake_true, h0]
  by_cases h1 : 300 < n
  · simp [Try.f5, awake_true, h0, h1]
  obtain ⟨n, rfl⟩ : ∃ m : Nat, n = m := ⟨n.toNat, by omega⟩
  obtain ⟨H1, p, q, e0, S0⟩ := new_store Heap.empty n (by omega)
  rw [← filled_zero] at S0
  simp [Try.f5, awake_true, show ¬ (n : Int) < 0 by omega, h1, e0]
  refine Gives.hole (fun r => bodyA _ _ _ _ (thenA (blockA 0 r) _ _)) (loop0 n (by omega) p q n _ H1 ⟨?_, ?_, ?_, 0, ?_, ?_, S0⟩) ?_
  · simp [len_Bs]
  · simp
  · simp
  · omega
  · simp
  rintro e ⟨t, ds⟩ H2 hr ⟨rfl, hd, S1⟩
  have hk := kept_run hr
  simp only at hd
  subst hd
  have ht : t.length = 110 := hk.1.trans (by simp [len_Bs])
  have g0 : rd t 0 = .int .i64 n := (hk.2 0 (by decide)).trans (by simp)
  have g1 : rd t 1 = .int .i64 k := (hk.2 1 (by decide)).trans (by simp)
  have g2 : rd t 2 = .int .i64 x := (hk.2 2 (by decide)).trans (by simp)
  have g7 : rd t 7 = .pointer (some ⟨p, 0, none⟩) := (hk.2 7 (by decide)).trans (by simp)
  clear hk hr
  rw [← Fr_nil t]
  have hlen : (filled n n).length = n := filled_len n n
  have hwr : 0 ≤ k → k ≤ n → IntKind.i64.wrap ((n : Int) - k) = n - k := fun h1 h2 => wrap64 _ (by omega) (by omega)
  by_cases hmay : 0 ≤ k ∧ k ≤ n ∧ 0 ≤ x ∧ x ≤ n - k
  · obtain ⟨c1, c2, c3, c4⟩ := hmay
    obtain ⟨k', rfl⟩ : ∃ m : Nat, k = m := ⟨k.toNat, by omega⟩
    obtain ⟨x', rfl⟩ : ∃ m : Nat, x = m := ⟨x.toNat, by omega⟩
    obtain ⟨o, H3, e1, rfl, S2⟩ := clear_ok S1 k' x' (by omega) (by omega)
    have hlen2 : (writeAt (filled n n) k' (List.replicate x' (.int .i64 0))).length = n := by simp [writeAt, hlen]; omega
    obtain ⟨o, H4, e2, a, c, tl, rfl, hg, S3⟩ := words_run S2 (by omega)
    rw [hlen2] at e2
    simp [g0, g1, g2, g7, ht, e1, e2, show k' ≤ n by omega, hwr, c4]
    refine Gives.hole (fun r => bodyA _ _ _ _ (thenA (blockA 2 r) _ _)) (loop1 n (by omega) k' x' true ?_ a c tl _ hlen2 ?_ n _ H4 ⟨?_, ?_, ?_, ?_, ?_, ?_, hg, 0, ?_, ?_⟩) ?_
    · intro _; omega
    · intro j hj
      rw [writeAt_get _ _ _ (by simp [hlen]; omega)]
      simp only [List.length_replicate]
      by_cases c5 : k' ≤ j ∧ j < k' + x'
      · rw [if_pos c5, List.getElem?_replicate, if_pos (by omega), if_pos (by simp; omega)]
      · rw [if_neg c5, if_neg (by simp; omega)]
        simp [filled, hj]
    · simp [ht]
    · simp [ht, g0]
    · simp [ht, g1]
    · simp [ht, g2]
    · simp [ht]
    · simp [ht]
    · omega
    · simp [ht]
    rintro e ⟨t', ds'⟩ H5 hr ⟨rfl, hd⟩
    have ht' : t'.length = 110 := (kept_run hr).1.trans (by simp [ht])
    simp only at hd
    subst hd
    rw [← Fr_nil t']
    simp [awake_true, ht']
  · have e1 := clear_no S1 k x (by omega) (by rw [hlen]; exact hmay)
    obtain ⟨o, H3, e2, a, c, tl, rfl, hg, S3⟩ := words_run S1 (by omega)
    simp only [hlen] at e2
    have hnot : 0 ≤ k → k ≤ n → 0 ≤ x → ¬ x ≤ n - k := fun h1 h2 h3 h4 => hmay ⟨h1, h2, h3, h4⟩
    by_cases c1 : 0 ≤ k <;> by_cases c2 : k ≤ n <;> by_cases c3 : 0 ≤ x
    all_goals
      simp [g0, g1, g2, g7, ht, e1, e2, c1, c2, c3, hwr, hnot]
      refine Gives.hole (fun r => bodyA _ _ _ _ (thenA (blockA 2 r) _ _)) (loop1 n (by omega) k x false ?_ a c tl _ hlen ?_ n _ H3 ⟨?_, ?_, ?_, ?_, ?_, ?_, hg, 0, ?_, ?_⟩) ?_
      · intro h; cases h
      · intro j hj
        simp [filled, hj]
      · simp [ht]
      · simp [ht, g0]
      · simp [ht, g1]
      · simp [ht, g2]
      · simp [ht]
      · simp [ht]
      · omega
      · simp [ht]
      rintro e ⟨t', ds'⟩ H5 hr ⟨rfl, hd⟩
      have ht' : t'.length = 110 := (kept_run hr).1.trans (by simp [ht])
      simp only at hd
      subst hd
      rw [← Fr_nil t']
      simp [awake_true, ht']
theorem clears_walk (n k x : Int) (w : World) : Calls Try.prog 5 #[.int .i64 n, .int .i64 k, .int .i64 x] w fun e w' => e = .returned (.bool true) ∧ RowKit.Below w.heap.size w w' := by
  obtain ⟨H', h⟩ := (clears_run n k x).true
  exact calls_of_run mixed Try.func5 rfl h rfl (E1_ok _ _) (sim_empty w) (groundL_LR _ _ rfl)
end Go.Vm.StoreLaw
