/- What is proved: 'signalboxlaw19.TaskNothing' hands back true, whatever the input. -/
import Derived.Test.YtiokhadpkpkpoaaVmTab
import Derived.Test.YtiokhadpkpkpoaaVmN
namespace Go.Vm.TaskLaw
open Go Go.Proofs
set_option maxRecDepth 100000
set_option linter.unusedSimpArgs false
attribute [local simp] repCells_succ writeAt rd_Fr
theorem mixed : Try.prog.follows .mixedOrders = true := by kernel_rfl
theorem awake_runs : isTrueOut ((runs Try.prog noHooks 200).call 10 [] Heap.empty) = true := by decide +kernel
/-- 'awake' is summed up. -/
def E1 : Hooks := pureHooks fun f args => match f, args with | 10, [] => some (.bool true) | _, _ => none
noncomputable abbrev W : Runs := run Try.prog E1
theorem E1_ok (N : Nat) (W0 : World) : CallOK Try.prog N W0 E1.run := by
  refine pureHooks_ok mixed (E := noHooks) (fun _ _ => noHooks_ok) ?_ N W0
  intro f args v h _ _
  split at h
  · simp only [Option.some.injEq] at h
    subst h
    obtain ⟨H', h⟩ := isTrueOut_some awake_runs
    exact ⟨H', run_of_runs h⟩
  · cases h
theorem awake_true (H : Heap) : W.call 10 [] H = some (.val (.bool true), H) := by
  rw [run_call]; rfl
theorem c3 (args : List Value) (H : Heap) : W.call 3 args H = callB Try.prog E1 Try.f3 args H := call_B Try.func3 rfl (by decide +kernel) rfl args H
theorem c4 (args : List Value) (H : Heap) : W.call 4 args H = callB Try.prog E1 Try.f4 args H := call_B Try.func4 rfl (by decide +kernel) rfl args H
theorem c5 (args : List Value) (H : Heap) : W.call 5 args H = callB Try.prog E1 Try.f5 args H := call_B Try.func5 rfl (by decide +kernel) rfl args H
theorem c6 (args : List Value) (H : Heap) : W.call 6 args H = callB Try.prog E1 Try.f6 args H := call_B Try.func6 rfl (by decide +kernel) rfl args H
theorem c7 (args : List Value) (H : Heap) : W.call 7 args H = callB Try.prog E1 Try.f7 args H := call_B Try.func7 rfl (by decide +kernel) rfl args H
theorem c8 (args : List Value) (H : Heap) : W.call 8 args H = callB Try.prog E1 Try.f8 args H := call_B Try.func8 rfl (by decide +kernel) rfl args H
theorem c9 (args : List Value) (H : Heap) : W.call 9 args H = callB Try.prog E1 Try.f9 args H := call_B Try.func9 rfl (by decide +kernel) rfl args H
theorem c14 (args : List Value) (H : Heap) : W.call 14 args H = callB Try.prog E1 Try.f14 args H := call_B Try.func14 rfl (by decide +kernel) rfl args H
theorem new_store (H : Heap) (n : Nat) (h2 : n ≤ 8192) : W.call 5 [.int .i64 n] H = some (.val (.tuple #[.pointer (some ⟨H.n + 1, 0, none⟩), .int .i64 0]),
    (H.push (.row true 0 1 (repCells n [.int .i64 0]))).push (.row true 0 1 [.slice (some ⟨H.n, 0, none⟩) n n])) := by
  rw [c5, callB, bodyOf]
  simp [Try.f5, show ¬ (n : Int) < 0 by omega, show ¬ 8192 < (n : Int) by omega, show (n : Int) ≤ 9223372036854775807 by omega, show 8 * (n : Int) ≤ 281474976710656 by omega]
theorem hn3 (H : Heap) (a b c : AObj) : (((H.push a).push b).push c).n = H.n + 3 := rfl
theorem hg1 (H : Heap) (a b c d : AObj) : ((((H.push a).push b).push c).set (H.n + 1) d).get (H.n + 1 + 1) = c := by
  rw [Heap.get_set _ _ _ (by rw [hn3]; omega), if_neg (by omega)]; exact Heap.get_push_self ((H.push a).push b) c
theorem hg2 (H : Heap) (a b c d e : AObj) : (((((H.push a).push b).push c).set (H.n + 1) d).set (H.n + 1 + 1) e).get (H.n + 1) = d := by
  rw [Heap.get_set _ _ _ (by show _ < (((H.push a).push b).push c).n; rw [hn3]; omega), if_neg (by omega)]; exact Heap.get_set_self _ _ (by rw [hn3]; omega)
theorem hg3 (H : Heap) (a b c d e : AObj) : (((((H.push a).push b).push c).set (H.n + 1) d).set (H.n + 1 + 1) e).get (H.n + 1 + 1) = e := Heap.get_set_self _ _ (by show _ < (((H.push a).push b).push c).n; rw [hn3]; omega)
theorem q1 : quiet Try.prog (drawN Try.f4 0) = true := by decide +kernel
theorem do_none (H : Heap) : Gives (W.call 4 [.pointer none, .agg #[.slice none 0 0, .slice none 0 0, .slice none 0 0, .int .i64 0, .slice none 0 0, .slice none 0 0, .slice none 0 0, .slice none 0 0, .int .i64 0], .pointer none] H) fun o _ => o = .val (.tuple #[.bool false, .int .i64 0]) := by
  rw [c4, callB, bodyOf]
  simp [Try.f4]
  refine region_quiet (by exact q1) ?_
  simp [Heap.get_push, hg1, hg2, hg3]
theorem slen_run {H : Heap} {p n c : Nat} {b : Option Addr} (h : H.get p = .row true 0 1 [.slice b n c]) : W.call 14 [.pointer (some ⟨p, 0, none⟩)] H = some (.val (.int .i64 n), H) := by
  rw [c14, callB, bodyOf]
  simp [Try.f14, h]
theorem snew_run {H : Heap} {p c : Nat} {b : Option Addr} (h : H.get p = .row true 0 1 [.slice b 5 c]) : W.call 7 [.pointer (some ⟨p, 0, none⟩), .int .i64 0, .int .i64 5] H = some (.val (.pointer (some ⟨H.n, 0, none⟩)), H.push (.row true 0 1 [.pointer (some ⟨p, 0, none⟩), .int .i64 0, .int .i64 5, .int .i64 0, .slice none 0 0])) := by
  have e := slen_run h
  rw [show ((5 : Nat) : Int) = 5 by rfl] at e
  rw [c7, callB, bodyOf]
  simp [Try.f7, e, wrap64 5 (by omega) (by omega)]
theorem tnew_run (H : Heap) (k : Nat) (z : Int) : W.call 6 [.pointer (some ⟨k, 0, none⟩), .int .i64 z] H = some (.val (.pointer (some ⟨H.n, 0, none⟩)), H.push (.row true 0 1 [.pointer (some ⟨k, 0, none⟩), .int .i64 z])) := by
  rw [c6, callB, bodyOf]
  simp [Try.f6]
theorem at_run {H : Heap} {p : Nat} {v : Value} {z : Int} (h : H.get p = .row true 0 1 [v, .int .i64 z]) : W.call 8 [.pointer (some ⟨p, 0, none⟩)] H = some (.val (.int .i64 z), H) := by
  rw [c8, callB, bodyOf]
  simp [Try.f8, h]
theorem at_none (H : Heap) : W.call 8 [.pointer none] H = some (.val (.int .i64 0), H) := by
  rw [c8, callB, bodyOf]
  simp [Try.f8]
theorem stack_none (H : Heap) : W.call 9 [.pointer none] H = some (.val (.pointer none), H) := by
  rw [c9, callB, bodyOf]
  simp [Try.f9]
theorem nothing_walk (at_ : Int) (_w : Lit.wf (.int .i64 at_) = true) : Gives (W.call 3 [.int .i64 at_] Heap.empty) fun o _ => o = .val (.bool true) := by
  rw [c3, callB, bodyOf]
  obtain ⟨o1, H1, e1, rfl⟩ := do_none Heap.empty
  have e2 := new_store H1 5 (by omega)
  simp only [show ((5 : Nat) : Int) = 5 by rfl] at e2
  have g2 : ((H1.push (.row true 0 1 (repCells 5 [.int .i64 0]))).push (.row true 0 1 [.slice (some ⟨H1.n, 0, none⟩) 5 5])).get (H1.n + 1) = .row true 0 1 [.slice (some ⟨H1.n, 0, none⟩) 5 5] := Heap.get_push_self (H1.push _) _
  generalize (H1.push (.row true 0 1 (repCells 5 [.int .i64 0]))).push (.row true 0 1 [.slice (some ⟨H1.n, 0, none⟩) 5 5]) = H2 at *
  have e3 := snew_run g2
  generalize H2.push (.row true 0 1 [.pointer (some ⟨H1.n + 1, 0, none⟩), .int .i64 0, .int .i64 5, .int .i64 0, .slice none 0 0]) = H3 at *
  have e4 := tnew_run H3 H2.n at_
  have e5 := at_run (Heap.get_push_self H3 (.row true 0 1 [.pointer (some ⟨H2.n, 0, none⟩), .int .i64 at_]))
  simp [Try.f3, awake_true, e1, e2, e3, e4, e5, at_none, stack_none]
end Go.Vm.TaskLaw
