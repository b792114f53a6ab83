/- What is proved: the larger of two whole numbers. -/
import Derived.Test.YtbjcfdopkaekjaaVmN
namespace Go.Vm
open Go
set_option linter.unusedSimpArgs false
theorem builtin_max {P : Program} (ts : List TypeId) (a b : Int) (H : Heap) : exBuiltin P .max ts [.int .i64 a, .int .i64 b] H = some (.val (.int .i64 (max a b)), H) := by
  have e : pureRun P (Builtin.max_ ts.toArray 0 #[Value.int .i64 a, Value.int .i64 b]) = some (.int .i64 (max a b)) := by
    show some (Value.int .i64 (if b > a then b else a)) = _
    have : (if b > a then b else a) = max a b := by split <;> omega
    rw [this]
  show (match groundL [Value.int .i64 a, Value.int .i64 b] with | true => val1 (ifGround (pureRun P (Builtin.max_ ts.toArray 0 #[Value.int .i64 a, Value.int .i64 b]))) H | false => none) = _
  rw [e]
  rfl
end Go.Vm
