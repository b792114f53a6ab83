/- What is proved: 'signalboxlaw1.ArithOver' hands back true, whatever the input. -/
import Derived.Test.YtmjljnkkeofngaaVmTab
import Derived.Test.YtmjljnkkeofngaaVmN
namespace Go.Vm.ArithLaw
open Go Go.Proofs
set_option maxRecDepth 100000
set_option linter.unusedSimpArgs false
theorem mixed : Try.prog.follows .mixedOrders = true := by kernel_rfl
theorem awake_runs : isTrueOut ((runs Try.prog noHooks 60).call 10 [] Heap.empty) = true := by decide +kernel
/-- 'awake' is summed up. -/
def E1 : Hooks := pureHooks fun f args => match f, args with | 10, [] => some (.bool true) | _, _ => none
noncomputable abbrev W : Runs := run Try.prog E1
theorem E1_ok (N : Nat) (W0 : World) : CallOK Try.prog N W0 E1.run := by
  refine pureHooks_ok mixed (E := noHooks) (fun _ _ => noHooks_ok) ?_ N W0
  intro f args v h _ _
  split at h
  · simp only [Option.some.injEq] at h
    subst h
    obtain ⟨H', h⟩ := isTrueOut_some awake_runs
    exact ⟨H', run_of_runs h⟩
  · cases h
theorem awake_true (H : Heap) : W.call 10 [] H = some (.val (.bool true), H) := by
  rw [run_call]; rfl
theorem c4 (args : List Value) (H : Heap) : W.call 4 args H = callB Try.prog E1 Try.f4 args H := call_B Try.func4 rfl (by decide +kernel) rfl args H
theorem c12 (args : List Value) (H : Heap) : W.call 12 args H = callB Try.prog E1 Try.f12 args H := call_B Try.func12 rfl (by decide +kernel) rfl args H
theorem c13 (args : List Value) (H : Heap) : W.call 13 args H = callB Try.prog E1 Try.f13 args H := call_B Try.func13 rfl (by decide +kernel) rfl args H
theorem wrap_is (x : Int) : ∃ k : Int, IntKind.i64.wrap x = x + 18446744073709551616 * k ∧ -9223372036854775808 ≤ IntKind.i64.wrap x ∧ IntKind.i64.wrap x ≤ 9223372036854775807 := by
  rw [IntKind.wrap_i64]
  refine ⟨-((x + 9223372036854775808) / 18446744073709551616), ?_, ?_, ?_⟩ <;> omega
set_option maxHeartbeats 8000000 in
theorem over_walk (a : Int) (ha : Lit.wf (.int .i64 a) = true) (b : Int) (hb : Lit.wf (.int .i64 b) = true) : Gives (W.call 4 [.int .i64 a, .int .i64 b] Heap.empty) fun o _ => o = .val (.bool true) := by
  obtain ⟨a1, a2⟩ := wf_int ha
  obtain ⟨b1, b2⟩ := wf_int hb
  have e1 : IntKind.i64.min = -9223372036854775808 := by decide
  have e2 : IntKind.i64.max = 9223372036854775807 := by decide
  rw [e1] at a1 b1
  rw [e2] at a2 b2
  obtain ⟨k1, hc, hc1, hc2⟩ := wrap_is (a + b)
  obtain ⟨k2, hd, hd1, hd2⟩ := wrap_is (a - b)
  generalize hcc : IntKind.i64.wrap (a + b) = c at *
  generalize hdd : IntKind.i64.wrap (a - b) = d at *
  clear e1 e2 ha hb
  rw [c4, callB, bodyOf]
  by_cases hA : 0 ≤ a <;> by_cases hB : 0 ≤ b <;> by_cases hX : c < a <;> by_cases hC : 0 ≤ c <;> by_cases hY : a < d <;> by_cases hD : 0 ≤ d <;>
    first
    | (exfalso; omega)
    | (have hB' : (b < 0) = (¬ 0 ≤ b) := propext ⟨fun h => by omega, fun h => by omega⟩
       clear hc hd a1 a2 b1 b2 hc1 hc2 hd1 hd2
       simp [Try.f4, c12, c13, callB, bodyOf, Try.f12, Try.f13, hcc, hdd, hA, hB, hB', hX, hC, hY, hD, awake_true])
end Go.Vm.ArithLaw
