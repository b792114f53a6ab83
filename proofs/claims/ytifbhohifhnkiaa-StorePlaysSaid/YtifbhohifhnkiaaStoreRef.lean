/- What is proved: what the functions of the reference's store hand back, and what they turn. -/
import Derived.Test.YtifbhohifhnkiaaStore
import Derived.Test.YtifbhohifhnkiaaVmM
namespace Go.Vm.StoreLaw
open Go Go.Proofs
set_option maxRecDepth 100000
set_option linter.unusedSimpArgs false
attribute [local simp] rd_Fr

theorem rnew_bad (H : Heap) (n : Int) (h : n < 0 ∨ 8192 < n) : W.call 17 [.int .i64 n] H = some (.val (.tuple #[.pointer none, .int .i64 1]), H) := by
  rw [call_fn Try.func17 rfl (by decide +kernel) rfl]
  by_cases h1 : n < 0
  · simp [Try.f17, h1]
  · simp [Try.f17, h1, show 8192 < n by omega]
theorem rnew_ok (H : Heap) (n : Nat) (h2 : n ≤ 8192) : W.call 17 [.int .i64 n] H = some (.val (.tuple #[.pointer (some ⟨H.n + 1, 0, none⟩), .int .i64 0]),
    (H.push (.row true 0 1 (repCells n [.int .i64 0]))).push (.row true 0 1 [.slice (some ⟨H.n, 0, none⟩) n n])) := by
  rw [call_fn Try.func17 rfl (by decide +kernel) rfl]
  simp [Try.f17, show ¬ (n : Int) < 0 by omega, show ¬ 8192 < (n : Int) by omega, show (n : Int) ≤ 9223372036854775807 by omega, show 8 * (n : Int) ≤ 281474976710656 by omega]

section
variable {H : Heap} {p q : Nat} {ws : List Value} (h : IsStore H p q ws)
set_option linter.unusedSectionVars false
include h
theorem rget_lt (k : Int) (h1 : k < 0) : W.call 19 [.pointer (some ⟨p, 0, none⟩), .int .i64 k] H = some (.val (.tuple #[.int .i64 0, .bool false]), H) := by
  rw [call_fn Try.func19 rfl (by decide +kernel) rfl]
  simp [Try.f19, h1]
theorem rget_ge (k : Int) (h1 : ws.length ≤ k) : W.call 19 [.pointer (some ⟨p, 0, none⟩), .int .i64 k] H = some (.val (.tuple #[.int .i64 0, .bool false]), H) := by
  rw [call_fn Try.func19 rfl (by decide +kernel) rfl]
  simp [Try.f19, h1, show ¬ k < 0 by omega, h.store]
theorem rget_in (k : Nat) (v : Value) (h1 : ws[k]? = some v) : W.call 19 [.pointer (some ⟨p, 0, none⟩), .int .i64 k] H = some (.val (.tuple #[v, .bool true]), H) := by
  have h2 := (List.getElem?_eq_some_iff.1 h1).1
  rw [call_fn Try.func19 rfl (by decide +kernel) rfl]
  simp [Try.f19, show ¬ (k : Int) < 0 by omega, show ¬ ws.length ≤ k by omega, h.store, h.words, h1, h2]
  exact (List.getElem?_eq_some_iff.1 h1).2
theorem rput_lt (k x : Int) (h1 : k < 0) : W.call 21 [.pointer (some ⟨p, 0, none⟩), .int .i64 k, .int .i64 x] H = some (.val (.bool false), H) := by
  rw [call_fn Try.func21 rfl (by decide +kernel) rfl]
  simp [Try.f21, h1]
theorem rput_ge (k x : Int) (h1 : ws.length ≤ k) : W.call 21 [.pointer (some ⟨p, 0, none⟩), .int .i64 k, .int .i64 x] H = some (.val (.bool false), H) := by
  rw [call_fn Try.func21 rfl (by decide +kernel) rfl]
  simp [Try.f21, h1, show ¬ k < 0 by omega, h.store]
theorem rput_in (k : Nat) (x : Int) (h1 : k < ws.length) : W.call 21 [.pointer (some ⟨p, 0, none⟩), .int .i64 k, .int .i64 x] H = some (.val (.bool true), H.set q (.row true 0 1 (ws.set k (.int .i64 x)))) := by
  rw [call_fn Try.func21 rfl (by decide +kernel) rfl]
  simp [Try.f21, show ¬ (k : Int) < 0 by omega, show ¬ ws.length ≤ k by omega, h.store, h.words, h1, writeAt_one _ _ _ h1, show k + 1 ≤ ws.length by omega]
theorem rclear_no (k x : Int) (hl : ws.length ≤ 8192) (h1 : ¬ (0 ≤ k ∧ k ≤ ws.length ∧ 0 ≤ x ∧ x ≤ ws.length - k)) : W.call 23 [.pointer (some ⟨p, 0, none⟩), .int .i64 k, .int .i64 x] H = some (.val (.bool false), H) := by
  rw [call_fn Try.func23 rfl (by decide +kernel) rfl]
  by_cases h3 : k < 0
  · simp [Try.f23, h3]
  by_cases h2 : x < 0
  · simp [Try.f23, h2, h3]
  by_cases h4 : (ws.length : Int) < k
  · simp [Try.f23, h2, h3, h4, h.store]
  · simp [Try.f23, h2, h3, h4, h.store, Go.Vm.wrap64 ((ws.length : Int) - k) (by omega) (by omega), show ((ws.length : Int) - k) < x by omega]
end

/-- The reference's loop: so many words are 0. -/
theorem rclear_loop (H0 : Heap) (p q k x : Nat) (n : Nat) (hn : n ≤ 8192) (hk : k + x ≤ n) (ws : List Value) (hl : ws.length = n) : ∀ m t H, (t.length = 47 ∧ rd t 0 = .pointer (some ⟨p, 0, none⟩) ∧ rd t 1 = .int .i64 k ∧ rd t 2 = .int .i64 x ∧
      ∃ i, i + m = x ∧ rd t 7 = .int .i64 i ∧ IsStore H p q (writeAt ws k (List.replicate i (.int .i64 0))) ∧ Same (· = q) H0 H) →
    Ends (W.code (.loop (loopN Try.f23 0)) ⟨t, []⟩ H) fun e s H' => e = .exit 0 ∧ s.ds = [] ∧ IsStore H' p q (writeAt ws k (List.replicate x (.int .i64 0))) ∧ Same (· = q) H0 H' := by
  refine loop_ends _ ?_
  rintro m t H ⟨ht, h0, h1, h2, i, hi, h7, hs, hf⟩
  rw [← Fr_nil t]
  have hlen : (writeAt ws k (List.replicate i (Value.int .i64 0))).length = n := by simp [writeAt]; omega
  by_cases hm : m = 0
  · subst hm
    obtain rfl : i = x := by omega
    simp [loopN, Try.f23, loopsOf, ht, h2, h7]
    exact ⟨hs, hf⟩
  · have e : (writeAt ws k (List.replicate i (Value.int .i64 0))).set (k + i) (.int .i64 0) = writeAt ws k (List.replicate (i + 1) (Value.int .i64 0)) := by
      exact writeAt_rep_succ ws k i _ (by omega)
    have S1 := hs.set _ (show ((writeAt ws k (List.replicate i (Value.int .i64 0))).set (k + i) (.int .i64 0)).length = _ by simp)
    rw [e] at S1
    simp [loopN, Try.f23, loopsOf, ht, h0, h1, h2, h7, show i < x by omega, wrap64 ((i : Int) + 1) (by omega) (by omega), wrap64 ((k : Int) + i) (by omega) (by omega), hs.store, hs.words, hlen, show (k : Int) + i < n by omega, show 0 ≤ (k : Int) + i by omega, show ((k : Int) + i).toNat = k + i by omega,
      show k + i + 1 ≤ n by omega, writeAt_one _ _ _ (show k + i < (writeAt ws k (List.replicate i (Value.int .i64 0))).length by omega), e]
    exact ⟨m - 1, by omega, i + 1, by omega, by simp, S1, hf.trans (Same.set (X := (· = q)) _ hs.lt rfl _)⟩
theorem rclear_ok {H : Heap} {p q : Nat} {ws : List Value} (h : IsStore H p q ws) (k x : Nat) (hl : ws.length ≤ 8192) (h1 : k + x ≤ ws.length) :
    Gives (W.call 23 [.pointer (some ⟨p, 0, none⟩), .int .i64 k, .int .i64 x] H) fun o H' => o = .val (.bool true) ∧ IsStore H' p q (writeAt ws k (List.replicate x (.int .i64 0))) ∧ Same (· = q) H H' := by
  rw [call_fn Try.func23 rfl (by decide +kernel) rfl]
  simp [Try.f23, show ¬ (x : Int) < 0 by omega, show ¬ (k : Int) < 0 by omega, show ¬ ws.length < k by omega, h.store, Go.Vm.wrap64 ((ws.length : Int) - k) (by omega) (by omega), show ¬ ((ws.length : Int) - k) < x by omega]
  refine Gives.hole (fun r => bodyA _ _ _ _ (thenA (blockA 0 r) _ _)) (rclear_loop H p q k x ws.length hl h1 ws rfl x _ H ⟨?_, ?_, ?_, ?_, 0, ?_, ?_, ?_, Same.refl _ _⟩) ?_
  · simp [len_Bs]
  · simp
  · simp
  · simp
  · omega
  · simp
  · have e : writeAt ws k [] = ws := by simp [writeAt]
    simpa [e] using h
  rintro e ⟨t, ds⟩ H2 hr ⟨rfl, hd, S1, hf⟩
  have ht : t.length = 47 := (kept_run hr).1.trans (by simp [len_Bs])
  simp only at hd
  subst hd
  rw [← Fr_nil t]
  simp [ht, S1, hf]

theorem ints_loop (H : Heap) (a oa b ob n ca cb : Nat) (cs1 cs2 : List Value) (f : Nat → Int) (hn : n ≤ 9223372036854775806) (ha : rowCells (H.get a) = some cs1) (hb : rowCells (H.get b) = some cs2)
    (h1 : ∀ j, j < n → cs1[oa + j]? = some (.int .i64 (f j))) (h2 : ∀ j, j < n → cs2[ob + j]? = some (.int .i64 (f j))) :
    ∀ m t H', (H' = H ∧ t.length = 26 ∧ rd t 0 = .slice (some ⟨a, oa, none⟩) n ca ∧ rd t 1 = .slice (some ⟨b, ob, none⟩) n cb ∧ ∃ i, i + m = n ∧ rd t 5 = .int .i64 i) →
    Ends (W.code (.loop (loopN Try.f25 0)) ⟨t, []⟩ H') fun e s H' => e = .exit 0 ∧ s.ds = [] ∧ H' = H := by
  have hq : quiet Try.prog (drawN Try.f25 0) = true := by decide +kernel
  simp [drawN, Try.f25, drawsOf] at hq
  refine loop_ends _ ?_
  rintro m t H' ⟨rfl, ht, h0, h3, i, hi, h5⟩
  rw [← Fr_nil t]
  by_cases hm : m = 0
  · subst hm
    obtain rfl : i = n := by omega
    simp [loopN, Try.f25, loopsOf, ht, h0, h3, h5]
  · simp [loopN, Try.f25, loopsOf, ht, h0, h3, h5, show i < n by omega, code_draw, hq, ha, hb, h1 i (by omega), h2 i (by omega), wrap64 ((i : Int) + 1) (by omega) (by omega)]
    exact ⟨m - 1, by omega, i + 1, by omega, by simp⟩
theorem ints_true (H : Heap) (a oa b ob n ca cb : Nat) (cs1 cs2 : List Value) (f : Nat → Int) (hn : n ≤ 9223372036854775806) (ha : rowCells (H.get a) = some cs1) (hb : rowCells (H.get b) = some cs2)
    (h1 : ∀ j, j < n → cs1[oa + j]? = some (.int .i64 (f j))) (h2 : ∀ j, j < n → cs2[ob + j]? = some (.int .i64 (f j))) :
    W.call 25 [.slice (some ⟨a, oa, none⟩) n ca, .slice (some ⟨b, ob, none⟩) n cb] H = some (.val (.bool true), H) := by
  have key : Gives (W.call 25 [.slice (some ⟨a, oa, none⟩) n ca, .slice (some ⟨b, ob, none⟩) n cb] H) fun o H' => o = .val (.bool true) ∧ H' = H := by
    rw [call_fn Try.func25 rfl (by decide +kernel) rfl]
    simp [Try.f25]
    refine Gives.hole (fun r => bodyA _ _ _ _ (thenA (blockA 0 r) _ _)) (ints_loop H a oa b ob n ca cb cs1 cs2 f hn ha hb h1 h2 n _ H ⟨rfl, ?_, ?_, ?_, 0, ?_, ?_⟩) ?_
    · simp [len_Bs]
    · simp
    · simp
    · omega
    · simp
    rintro e ⟨t, ds⟩ H2 hr ⟨rfl, hd, rfl⟩
    have ht : t.length = 26 := (kept_run hr).1.trans (by simp [len_Bs])
    simp only at hd
    subst hd
    rw [← Fr_nil t]
    simp [ht]
  obtain ⟨o, H', h, rfl, rfl⟩ := key
  exact h
end Go.Vm.StoreLaw
