/- What is proved: 'signalboxlaw26.ScopeNothing' hands back true, whatever the input. -/
import Derived.Test.YthodeippnckeoaaScope26
namespace Go.Vm.ScopeLaw
open Go Go.Proofs
set_option maxRecDepth 100000
set_option linter.unusedSimpArgs false
attribute [local simp] repCells_succ writeAt rd_Fr
theorem c_Global (args : List Value) (H : Heap) : W.call 13 args H = callB Try.prog E1 Try.f13 args H := call_B Try.func13 rfl (by decide +kernel) rfl args H
theorem none_Global (n : ByteArray) (H : Heap) : W.call 13 [.pointer none, .string n] H = some (.val (.tuple #[.agg #[.int .i64 0, .int .i64 0, .int .i64 0], .bool false]), H.push (.row true 0 1 [.int .i64 0, .int .i64 0, .int .i64 0])) := by
  rw [c_Global, callB, bodyOf]
  simp [Try.f13]
theorem c_Proc (args : List Value) (H : Heap) : W.call 14 args H = callB Try.prog E1 Try.f14 args H := call_B Try.func14 rfl (by decide +kernel) rfl args H
theorem none_Proc (n : ByteArray) (H : Heap) : W.call 14 [.pointer none, .string n] H = some (.val (.tuple #[.int .i64 0, .bool false]), H) := by
  rw [c_Proc, callB, bodyOf]
  simp [Try.f14]
theorem c_Region (args : List Value) (H : Heap) : W.call 16 args H = callB Try.prog E1 Try.f16 args H := call_B Try.func16 rfl (by decide +kernel) rfl args H
theorem none_Region (n : ByteArray) (H : Heap) : W.call 16 [.pointer none, .string n] H = some (.val (.tuple #[.int .i64 0, .bool false]), H) := by
  rw [c_Region, callB, bodyOf]
  simp [Try.f16]
theorem c_Local (args : List Value) (H : Heap) : W.call 15 args H = callB Try.prog E1 Try.f15 args H := call_B Try.func15 rfl (by decide +kernel) rfl args H
theorem none_Local (n : ByteArray) (p : Int) (H : Heap) : W.call 15 [.pointer none, .int .i64 p, .string n] H = some (.val (.tuple #[.int .i64 0, .bool false]), H) := by
  rw [c_Local, callB, bodyOf]
  simp [Try.f15]
theorem c_Cells (args : List Value) (H : Heap) : W.call 17 args H = callB Try.prog E1 Try.f17 args H := call_B Try.func17 rfl (by decide +kernel) rfl args H
theorem none_Cells (H : Heap) : W.call 17 [.pointer none] H = some (.val (.slice none 0 0), H) := by
  rw [c_Cells, callB, bodyOf]
  simp [Try.f17]
theorem c_Semas (args : List Value) (H : Heap) : W.call 18 args H = callB Try.prog E1 Try.f18 args H := call_B Try.func18 rfl (by decide +kernel) rfl args H
theorem none_Semas (H : Heap) : W.call 18 [.pointer none] H = some (.val (.slice none 0 0), H) := by
  rw [c_Semas, callB, bodyOf]
  simp [Try.f18]
theorem c_Totals (args : List Value) (H : Heap) : W.call 19 args H = callB Try.prog E1 Try.f19 args H := call_B Try.func19 rfl (by decide +kernel) rfl args H
theorem none_Totals (H : Heap) : W.call 19 [.pointer none] H = some (.val (.slice none 0 0), H) := by
  rw [c_Totals, callB, bodyOf]
  simp [Try.f19]
theorem c_Regions (args : List Value) (H : Heap) : W.call 20 args H = callB Try.prog E1 Try.f20 args H := call_B Try.func20 rfl (by decide +kernel) rfl args H
theorem none_Regions (H : Heap) : W.call 20 [.pointer none] H = some (.val (.int .i64 0), H) := by
  rw [c_Regions, callB, bodyOf]
  simp [Try.f20]
theorem c_Params (args : List Value) (H : Heap) : W.call 21 args H = callB Try.prog E1 Try.f21 args H := call_B Try.func21 rfl (by decide +kernel) rfl args H
theorem none_Params (p : Int) (H : Heap) : W.call 21 [.pointer none, .int .i64 p] H = some (.val (.int .i64 0), H) := by
  rw [c_Params, callB, bodyOf]
  simp [Try.f21]
theorem c_Locals (args : List Value) (H : Heap) : W.call 22 args H = callB Try.prog E1 Try.f22 args H := call_B Try.func22 rfl (by decide +kernel) rfl args H
theorem none_Locals (p : Int) (H : Heap) : W.call 22 [.pointer none, .int .i64 p] H = some (.val (.int .i64 0), H) := by
  rw [c_Locals, callB, bodyOf]
  simp [Try.f22]
theorem c_law (args : List Value) (H : Heap) : W.call 5 args H = callB Try.prog E1 Try.f5 args H := call_B Try.func5 rfl (by decide +kernel) rfl args H
theorem nothing_walk (p : Int) (_w : Lit.wf (.int .i64 p) = true) (n : ByteArray) (_w2 : n.size ≤ maxLen) : Gives (W.call 5 [.int .i64 p, .string n] Heap.empty) fun o _ => o = .val (.bool true) := by
  rw [c_law, callB, bodyOf]
  simp [Try.f5, awake_true, Heap.get_push, none_Global, none_Proc, none_Region, none_Local, none_Cells, none_Semas, none_Totals, none_Regions, none_Params, none_Locals]
end Go.Vm.ScopeLaw
