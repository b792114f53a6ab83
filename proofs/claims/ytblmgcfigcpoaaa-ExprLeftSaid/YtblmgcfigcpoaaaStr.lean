/- What is proved: strings put together, and made into bytes. -/
import Derived.Test.YtblmgcfigcpoaaaLex2
namespace Go.Vm.Parse
open Go Go.Proofs
set_option maxRecDepth 100000
set_option linter.unusedSimpArgs false
set_option linter.unusedVariables false
theorem bin_cat2 (x y : Operand) (a b : ByteArray) (h : a.size + b.size ≤ 100000) : exBin Try.prog .add 9 x y (.string a) (.string b) = some (.string (a ++ b)) := by
  have e : Op.stringOp .add a b = pure (.string (a ++ b)) := by
    show (if ((a.size + b.size : Nat) : Int) > IntKind.i64.max then _ else _) = _
    rw [if_neg (by have : IntKind.i64.max = 9223372036854775807 := rfl; omega)]
  simp only [exBin, ground_string, Bool.and_self]
  rw [pureRun_bind _ (eqGuard .add 9 x y (.string a) (.string b)) () rfl]
  show ifGround (pureRun Try.prog (Op.stringOp .add a b)) = _
  rw [e]
  rfl
theorem conv_text2 (x : ByteArray) (H : Heap) : exConvert Try.prog 9 22 (.string x) H = some (.slice (some ⟨H.n, 0, none⟩) x.size x.size, H.push (.row true 1 1 (bytesOf x))) := by
  simp [exConvert]
theorem text_BS2 (x : ByteArray) (H : Heap) : BS (H.push (.row true 1 1 (bytesOf x))) H.n 0 x.size x.data.toList := by
  obtain ⟨⟨l⟩⟩ := x
  refine ⟨true, 1, 1, _, Heap.get_push_self _ _, ?_, ?_, ?_⟩
  · simp [bytesOf]
  · simp [ByteArray.size]
  · simp [bytesOf]
    rw [List.take_of_length_le (by simp)]
    rfl
theorem app_list2 (x y : ByteArray) : (x ++ y).data.toList = x.data.toList ++ y.data.toList := by
  rw [ByteArray.data_append]; simp
end Go.Vm.Parse
