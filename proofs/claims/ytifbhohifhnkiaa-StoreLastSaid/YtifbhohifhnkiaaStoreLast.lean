/- What is proved: 'signalboxlaw2.StoreLast' hands back true, whatever the input. -/
import Derived.Test.YtifbhohifhnkiaaStore
namespace Go.Vm.StoreLaw
open Go Go.Proofs
set_option maxRecDepth 100000
set_option linter.unusedSimpArgs false
theorem last_run (n k x o : Int) : ∃ H', W.call 4 [.int .i64 n, .int .i64 k, .int .i64 x, .int .i64 o] Heap.empty = some (.val (.bool true), H') := by
  refine isTrueOut_some ?_
  rw [call_fn Try.func4 rfl (by decide +kernel) rfl]
  by_cases h0 : n < 1
  · simp [Try.f4, awake_true, h0]
  by_cases h1 : 500 < n
  · simp [Try.f4, awake_true, h0, h1]
  by_cases h2 : k < 0
  · simp [Try.f4, awake_true, h0, h1, h2]
  by_cases h3 : n ≤ k
  · simp [Try.f4, awake_true, h0, h1, h2, h3]
  by_cases h4 : o < 0
  · simp [Try.f4, awake_true, h0, h1, h2, h3, h4]
  by_cases h5 : n ≤ o
  · simp [Try.f4, awake_true, h0, h1, h2, h3, h4, h5]
  obtain ⟨n, rfl⟩ : ∃ m : Nat, n = m := ⟨n.toNat, by omega⟩
  obtain ⟨k, rfl⟩ : ∃ m : Nat, k = m := ⟨k.toNat, by omega⟩
  obtain ⟨o, rfl⟩ : ∃ m : Nat, o = m := ⟨o.toNat, by omega⟩
  obtain ⟨H1, p, q, e0, S0⟩ := new_store Heap.empty n (by omega)
  obtain ⟨H2, e1, S1⟩ := put_store S0 o 5 (by simp; omega)
  obtain ⟨H3, e2, S2⟩ := put_store S1 k x (by simp; omega)
  have e3 := get_in S2 k (.int .i64 x) (by rw [List.getElem?_set_self (by simp; omega)])
  by_cases e : o = k
  · subst e
    simp [Try.f4, awake_true, show ¬ (n : Int) < 1 by omega, h1, show ¬ (o : Int) < 0 by omega, show ¬ n ≤ o by omega, e0, e1, e2, e3]
  · have e4 := get_in S2 o (.int .i64 5) (by rw [List.getElem?_set_ne (fun h => e h.symm), List.getElem?_set_self (by simp; omega)])
    simp [Try.f4, awake_true, show ¬ (n : Int) < 1 by omega, h1, show ¬ (k : Int) < 0 by omega, show ¬ n ≤ k by omega, show ¬ (o : Int) < 0 by omega, show ¬ n ≤ o by omega, e0, e1, e2, e3, e4, show ¬ (o : Int) = k by omega]

theorem last_walk (n k x o : Int) (w : World) : Calls Try.prog 4 #[.int .i64 n, .int .i64 k, .int .i64 x, .int .i64 o] w fun e w' => e = .returned (.bool true) ∧ RowKit.Below w.heap.size w w' := by
  obtain ⟨H', h⟩ := last_run n k x o
  exact calls_of_run mixed Try.func4 rfl h rfl (E1_ok _ _) (sim_empty w) (groundL_LR _ _ rfl)
end Go.Vm.StoreLaw
