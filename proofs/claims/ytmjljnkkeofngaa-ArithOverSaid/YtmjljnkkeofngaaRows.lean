/-
  No cell of these rows narrows 'for every input' (looked for: loops, veiled, ifaces, maps, wideKeys, modest, calm, conditions, laid).
  DERIVED. THE GIVEN ROWS OF THIS SEAT. 5 by the template 'for every input the law returns true; each argument reads behind the call as it read before'; 0 by the template 'total and deterministic' (their statements: YtmjljnkkeofngaaTotals.lean).
  GIVEN WITH THE SEED: the statements are not yours to turn. If you find one false, say at which input.
  Laid BY PROGRAM, IN A SANDBOX (cutbox-rows.mjs): the forced cells as the released guide's own fill.sh prints them over the translation 2a14e5ecab034875… (all of the seat's roots in one cut). By AI agents, Wed Nov 11 2026. No macro, syntax, notation, axiom, sorry.
-/
import Derived.Test.YtmjljnkkeofngaaChecked
import GoSem.Claim
import GoSem.ClaimJoined
import GoSem.ClaimMapViews
import Derived.JoinedTies
import Derived.KernelRfl
namespace Go.Proofs.Ytmjljnkkeofngaa
/- THE CELL 'sum', in the pinned program and in every row, IS THE sha256 OF THE DUMP (.gsa) THAT YtmjljnkkeofngaaProg.lean LOADS. Nothing in Lean hashes anything: it is a label: what it is worth is what the hold of that sum in a sandbox is worth. -/
noncomputable def Try.pinned : Pinned := { name := "ytmjljnkkeofngaa", sum := "2a14e5ecab034875ff02406efdc0d3f5f9c10f7aaa99742606d7b6367c782135", checked := Try.checked }
namespace Rows
def none {H : Type} : Left H := { results := [], args := [] }

/-- 'signalboxlaw1.ArithBack': WHATEVER THE INPUT: true; the input reads as it did. -/
def arithBackSpec : ChangeSpec := { name := "arithBack", fn := fun _ => fun
  | [d1, d2] => { results := [.lit (.bool true)], args := [d1, d2] }
  | _ => none }
def arithBackRow : OpenClaim := { program := "ytmjljnkkeofngaa", sum := "2a14e5ecab034875ff02406efdc0d3f5f9c10f7aaa99742606d7b6367c782135", func := "signalbox/signalboxlaw1.ArithBack", spec := "arithBack", apart := false }
def ArithBackSaid : Prop := arithBackRow.holds Try.pinned (OpenSpec.ofChange arithBackSpec)

/-- ITS FALSE NEIGHBOUR: 'it returns false'. Refute it at one input. -/
def arithBackWrong : ChangeSpec := { name := "arithBack", fn := fun _ => fun
  | [d1, d2] => { results := [.lit (.bool false)], args := [d1, d2] }
  | _ => none }
def ArithBackWrongFalsely : Prop := arithBackRow.holds Try.pinned (OpenSpec.ofChange arithBackWrong)

/-- 'signalboxlaw1.ArithOver': WHATEVER THE INPUT: true; the input reads as it did. -/
def arithOverSpec : ChangeSpec := { name := "arithOver", fn := fun _ => fun
  | [d1, d2] => { results := [.lit (.bool true)], args := [d1, d2] }
  | _ => none }
def arithOverRow : OpenClaim := { program := "ytmjljnkkeofngaa", sum := "2a14e5ecab034875ff02406efdc0d3f5f9c10f7aaa99742606d7b6367c782135", func := "signalbox/signalboxlaw1.ArithOver", spec := "arithOver", apart := false }
def ArithOverSaid : Prop := arithOverRow.holds Try.pinned (OpenSpec.ofChange arithOverSpec)

/-- ITS FALSE NEIGHBOUR: 'it returns false'. Refute it at one input. -/
def arithOverWrong : ChangeSpec := { name := "arithOver", fn := fun _ => fun
  | [d1, d2] => { results := [.lit (.bool false)], args := [d1, d2] }
  | _ => none }
def ArithOverWrongFalsely : Prop := arithOverRow.holds Try.pinned (OpenSpec.ofChange arithOverWrong)

/-- 'signalboxlaw1.ArithOrder': WHATEVER THE INPUT: true; the input reads as it did. -/
def arithOrderSpec : ChangeSpec := { name := "arithOrder", fn := fun _ => fun
  | [d1, d2] => { results := [.lit (.bool true)], args := [d1, d2] }
  | _ => none }
def arithOrderRow : OpenClaim := { program := "ytmjljnkkeofngaa", sum := "2a14e5ecab034875ff02406efdc0d3f5f9c10f7aaa99742606d7b6367c782135", func := "signalbox/signalboxlaw1.ArithOrder", spec := "arithOrder", apart := false }
def ArithOrderSaid : Prop := arithOrderRow.holds Try.pinned (OpenSpec.ofChange arithOrderSpec)

/-- ITS FALSE NEIGHBOUR: 'it returns false'. Refute it at one input. -/
def arithOrderWrong : ChangeSpec := { name := "arithOrder", fn := fun _ => fun
  | [d1, d2] => { results := [.lit (.bool false)], args := [d1, d2] }
  | _ => none }
def ArithOrderWrongFalsely : Prop := arithOrderRow.holds Try.pinned (OpenSpec.ofChange arithOrderWrong)

/-- 'signalboxlaw1.ArithAsks': WHATEVER THE INPUT: true; the input reads as it did. -/
def arithAsksSpec : ChangeSpec := { name := "arithAsks", fn := fun _ => fun
  | [d1, d2] => { results := [.lit (.bool true)], args := [d1, d2] }
  | _ => none }
def arithAsksRow : OpenClaim := { program := "ytmjljnkkeofngaa", sum := "2a14e5ecab034875ff02406efdc0d3f5f9c10f7aaa99742606d7b6367c782135", func := "signalbox/signalboxlaw1.ArithAsks", spec := "arithAsks", apart := false }
def ArithAsksSaid : Prop := arithAsksRow.holds Try.pinned (OpenSpec.ofChange arithAsksSpec)

/-- ITS FALSE NEIGHBOUR: 'it returns false'. Refute it at one input. -/
def arithAsksWrong : ChangeSpec := { name := "arithAsks", fn := fun _ => fun
  | [d1, d2] => { results := [.lit (.bool false)], args := [d1, d2] }
  | _ => none }
def ArithAsksWrongFalsely : Prop := arithAsksRow.holds Try.pinned (OpenSpec.ofChange arithAsksWrong)

/-- 'signalboxlaw1.ArithDoes': WHATEVER THE INPUT: true; the input reads as it did. -/
def arithDoesSpec : ChangeSpec := { name := "arithDoes", fn := fun _ => fun
  | [d1, d2, d3] => { results := [.lit (.bool true)], args := [d1, d2, d3] }
  | _ => none }
def arithDoesRow : OpenClaim := { program := "ytmjljnkkeofngaa", sum := "2a14e5ecab034875ff02406efdc0d3f5f9c10f7aaa99742606d7b6367c782135", func := "signalbox/signalboxlaw1.ArithDoes", spec := "arithDoes", apart := false }
def ArithDoesSaid : Prop := arithDoesRow.holds Try.pinned (OpenSpec.ofChange arithDoesSpec)

/-- ITS FALSE NEIGHBOUR: 'it returns false'. Refute it at one input. -/
def arithDoesWrong : ChangeSpec := { name := "arithDoes", fn := fun _ => fun
  | [d1, d2, d3] => { results := [.lit (.bool false)], args := [d1, d2, d3] }
  | _ => none }
def ArithDoesWrongFalsely : Prop := arithDoesRow.holds Try.pinned (OpenSpec.ofChange arithDoesWrong)

/- THE SECOND FORM. 'bulk': how many values and letters a reading holds, each counted each time it is reached (what is shared counts as often as it is met; a slice's spare places count too). A statement '..UptoSaid' is the law's where the arguments, and the package variables that the reading takes, are together of bulk at most 1048576: NARROWER than '..Said'. Prove '..Said' where nothing that the law and all that it calls make is longer than what came in: it says more and counts as full. Else prove '..UptoSaid'. A law counts once. -/
mutual
def uptoBulk {H : Type} : DataW H → Nat
  | .lit (.string bytes) => bytes.length + 1
  | .lit _ => 1
  | .nil => 1
  | .ptr d => uptoBulk d + 1
  | .slice elems spare => uptoBulkAll elems + uptoBulkAll spare + 1
  | .agg parts => uptoBulkAll parts + 1
  | .iface _ d => uptoBulk d + 1
  | .map entries => uptoBulkEntries entries + 1
  | .held _ => 1
def uptoBulkAll {H : Type} : List (DataW H) → Nat
  | [] => 0
  | d :: r => uptoBulk d + uptoBulkAll r
def uptoBulkEntries {H : Type} : List (Lit × DataW H) → Nat
  | [] => 0
  | x :: r => uptoBulkEntry x + uptoBulkEntries r
def uptoBulkEntry {H : Type} : Lit × DataW H → Nat
  | (.string bytes, d) => bytes.length + uptoBulk d + 1
  | (_, d) => uptoBulk d + 1
 end
def uptoSmall : (H : Type) → List (DataW H) → Bool := fun _ ds => decide (uptoBulkAll ds ≤ 1048576)
def OpenSpec.upto (s : _root_.Go.ChangeSpec) : _root_.Go.OpenSpec := { _root_.Go.OpenSpec.ofChange s with cond := some uptoSmall }

/-- 'signalboxlaw1.ArithBack', WHERE WHAT IT READS IS OF BULK AT MOST 1048576: true; the input reads as it did. -/
def arithBackUptoRow : OpenClaim := { program := "ytmjljnkkeofngaa", sum := "2a14e5ecab034875ff02406efdc0d3f5f9c10f7aaa99742606d7b6367c782135", func := "signalbox/signalboxlaw1.ArithBack", spec := "arithBack", apart := false, narrowed := true }
def ArithBackUptoSaid : Prop := arithBackUptoRow.holds Try.pinned (OpenSpec.upto arithBackSpec)

/-- 'signalboxlaw1.ArithOver', WHERE WHAT IT READS IS OF BULK AT MOST 1048576: true; the input reads as it did. -/
def arithOverUptoRow : OpenClaim := { program := "ytmjljnkkeofngaa", sum := "2a14e5ecab034875ff02406efdc0d3f5f9c10f7aaa99742606d7b6367c782135", func := "signalbox/signalboxlaw1.ArithOver", spec := "arithOver", apart := false, narrowed := true }
def ArithOverUptoSaid : Prop := arithOverUptoRow.holds Try.pinned (OpenSpec.upto arithOverSpec)

/-- 'signalboxlaw1.ArithOrder', WHERE WHAT IT READS IS OF BULK AT MOST 1048576: true; the input reads as it did. -/
def arithOrderUptoRow : OpenClaim := { program := "ytmjljnkkeofngaa", sum := "2a14e5ecab034875ff02406efdc0d3f5f9c10f7aaa99742606d7b6367c782135", func := "signalbox/signalboxlaw1.ArithOrder", spec := "arithOrder", apart := false, narrowed := true }
def ArithOrderUptoSaid : Prop := arithOrderUptoRow.holds Try.pinned (OpenSpec.upto arithOrderSpec)

/-- 'signalboxlaw1.ArithAsks', WHERE WHAT IT READS IS OF BULK AT MOST 1048576: true; the input reads as it did. -/
def arithAsksUptoRow : OpenClaim := { program := "ytmjljnkkeofngaa", sum := "2a14e5ecab034875ff02406efdc0d3f5f9c10f7aaa99742606d7b6367c782135", func := "signalbox/signalboxlaw1.ArithAsks", spec := "arithAsks", apart := false, narrowed := true }
def ArithAsksUptoSaid : Prop := arithAsksUptoRow.holds Try.pinned (OpenSpec.upto arithAsksSpec)

/-- 'signalboxlaw1.ArithDoes', WHERE WHAT IT READS IS OF BULK AT MOST 1048576: true; the input reads as it did. -/
def arithDoesUptoRow : OpenClaim := { program := "ytmjljnkkeofngaa", sum := "2a14e5ecab034875ff02406efdc0d3f5f9c10f7aaa99742606d7b6367c782135", func := "signalbox/signalboxlaw1.ArithDoes", spec := "arithDoes", apart := false, narrowed := true }
def ArithDoesUptoSaid : Prop := arithDoesUptoRow.holds Try.pinned (OpenSpec.upto arithDoesSpec)

end Rows
end Go.Proofs.Ytmjljnkkeofngaa
