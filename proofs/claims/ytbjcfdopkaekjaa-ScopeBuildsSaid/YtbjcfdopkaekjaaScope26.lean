/- What is proved: the run of 'signalboxlaw26.awake'; the calls of package scope, one by one. -/
import Derived.Test.YtbjcfdopkaekjaaVmTab
import Derived.Test.YtbjcfdopkaekjaaVmO
namespace Go.Vm.ScopeLaw
open Go Go.Proofs
set_option maxRecDepth 100000
set_option linter.unusedSimpArgs false
theorem mixed : Try.prog.follows .mixedOrders = true := by kernel_rfl
theorem awake_tree : isTrueOut ((runsT Try.prog noHooks 5000).call 7 [] Heap.empty) = true := by decide +kernel
theorem awake_runs : isTrueOut ((runs Try.prog noHooks 5000).call 7 [] Heap.empty) = true := tree_call awake_tree
/-- 'awake' is summed up. -/
def E1 : Hooks := pureHooks fun f args => match f, args with | 7, [] => some (.bool true) | _, _ => none
noncomputable abbrev W : Runs := run Try.prog E1
theorem E1_ok (N : Th) (W0 : World) : CallOK Try.prog N W0 E1.run := by
  refine pureHooks_ok mixed (E := noHooks) (fun _ _ => noHooks_ok) ?_ N W0
  intro f args v h _ _
  split at h
  · simp only [Option.some.injEq] at h
    subst h
    obtain ⟨H', h⟩ := isTrueOut_some awake_runs
    exact ⟨H', run_of_runs h⟩
  · cases h
theorem awake_true (H : Heap) : W.call 7 [] H = some (.val (.bool true), H) := by
  rw [run_call]; rfl
end Go.Vm.ScopeLaw
