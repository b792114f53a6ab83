/- What is proved: 'signalboxlaw2.StoreNothing' hands back true, whatever the input. -/
import Derived.Test.YtifbhohifhnkiaaVmTab
import Derived.Test.YtifbhohifhnkiaaVmK
namespace Go.Vm
open Go Go.Proofs
set_option maxRecDepth 100000
set_option linter.unusedSimpArgs false
/-- 'awake' is summed up: it hands back true. -/
def E1 : Hooks := pureHooks fun f args => match f, args with | 15, [] => some (.bool true) | _, _ => none
noncomputable abbrev W : Runs := run Try.prog E1

theorem mixed : Try.prog.follows .mixedOrders = true := by kernel_rfl
theorem awake_runs : isTrueOut ((runs Try.prog noHooks 60).call 15 [] Heap.empty) = true := by decide +kernel
theorem E1_ok (N : Nat) (W0 : World) : CallOK Try.prog N W0 E1.run := by
  refine pureHooks_ok mixed (E := noHooks) (fun _ _ => noHooks_ok) ?_ N W0
  intro f args v h _ _
  split at h
  · simp only [Option.some.injEq] at h
    subst h
    obtain ⟨H', h⟩ := isTrueOut_some awake_runs
    exact ⟨H', run_of_runs h⟩
  · cases h

theorem len_nil (H : Heap) : W.call 24 [.pointer none] H = some (.val (.int .i64 0), H) := by
  rw [call_fn Try.func24 rfl (by decide +kernel) rfl]
  simp [Try.f24]
theorem words_nil (H : Heap) : W.call 26 [.pointer none] H = some (.val (.slice none 0 0), H) := by
  rw [call_fn Try.func26 rfl (by decide +kernel) rfl]
  simp [Try.f26]
theorem get_nil (H : Heap) (k : Int) : W.call 18 [.pointer none, .int .i64 k] H = some (.val (.tuple #[.int .i64 0, .bool false]), H) := by
  rw [call_fn Try.func18 rfl (by decide +kernel) rfl]
  by_cases h1 : k < 0
  · simp [Try.f18, h1]
  · simp [Try.f18, h1, len_nil, show 0 ≤ k by omega]
theorem put_nil (H : Heap) (k x : Int) : W.call 20 [.pointer none, .int .i64 k, .int .i64 x] H = some (.val (.bool false), H) := by
  rw [call_fn Try.func20 rfl (by decide +kernel) rfl]
  by_cases h1 : k < 0
  · simp [Try.f20, h1]
  · simp [Try.f20, h1, len_nil, show 0 ≤ k by omega]
theorem clear_nil (H : Heap) (k x : Int) : W.call 22 [.pointer none, .int .i64 k, .int .i64 x] H = some (.val (.bool false), H) := by
  rw [call_fn Try.func22 rfl (by decide +kernel) rfl]
  simp [Try.f22]
theorem new_bad (H : Heap) (n : Int) (h : n < 0 ∨ 8192 < n) : W.call 16 [.int .i64 n] H = some (.val (.tuple #[.pointer none, .int .i64 1]), H) := by
  rw [call_fn Try.func16 rfl (by decide +kernel) rfl]
  by_cases h1 : n < 0
  · simp [Try.f16, h1]
  · simp [Try.f16, h1, show 8192 < n by omega]
theorem new_ok (H : Heap) (n : Nat) (h2 : n ≤ 8192) : W.call 16 [.int .i64 n] H = some (.val (.tuple #[.pointer (some ⟨H.n + 1, 0, none⟩), .int .i64 0]),
    (H.push (.row true 0 1 (repCells n [.int .i64 0]))).push (.row true 0 1 [.slice (some ⟨H.n, 0, none⟩) n n])) := by
  rw [call_fn Try.func16 rfl (by decide +kernel) rfl]
  simp [Try.f16, show ¬ (n : Int) < 0 by omega, show ¬ 8192 < (n : Int) by omega, show (n : Int) ≤ 9223372036854775807 by omega, show 8 * (n : Int) ≤ 281474976710656 by omega]
theorem awake_true (H : Heap) : W.call 15 [] H = some (.val (.bool true), H) := by
  rw [run_call]; rfl
theorem nothing_run (n k x : Int) : ∃ H', W.call 6 [.int .i64 n, .int .i64 k, .int .i64 x] Heap.empty = some (.val (.bool true), H') := by
  refine isTrueOut_some ?_
  rw [call_fn Try.func6 rfl (by decide +kernel) rfl]
  by_cases h0 : n < 0
  · simp [Try.f6, new_bad _ n (.inl h0), len_nil, words_nil, get_nil, put_nil, clear_nil, awake_true, show ¬ 0 ≤ n by omega]
  · by_cases h1 : 8192 < n
    · simp [Try.f6, new_bad _ n (.inr h1), len_nil, words_nil, get_nil, put_nil, clear_nil, awake_true, show 0 ≤ n by omega, show ¬ n ≤ 8192 by omega]
    · obtain ⟨m, rfl⟩ : ∃ m : Nat, n = m := ⟨n.toNat, by omega⟩
      simp [Try.f6, new_ok _ m (by omega), len_nil, words_nil, get_nil, put_nil, clear_nil, awake_true, show (m : Int) ≤ 8192 by omega]

theorem nothing_walk (n k x : Int) (w : World) : Calls Try.prog 6 #[.int .i64 n, .int .i64 k, .int .i64 x] w fun e w' => e = .returned (.bool true) ∧ RowKit.Below w.heap.size w w' := by
  obtain ⟨H', h⟩ := nothing_run n k x
  exact calls_of_run mixed Try.func6 rfl h rfl (E1_ok _ _) (sim_empty w) (groundL_LR _ _ rfl)
end Go.Vm
