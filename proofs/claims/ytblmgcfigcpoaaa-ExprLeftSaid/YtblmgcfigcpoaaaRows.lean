/-
  No cell of these rows narrows 'for every input' (looked for: loops, veiled, ifaces, maps, wideKeys, modest, calm, conditions, laid).
  DERIVED. THE GIVEN ROWS OF THIS SEAT. 4 by the template 'for every input the law returns true; each argument reads behind the call as it read before'; 0 by the template 'total and deterministic' (their statements: YtblmgcfigcpoaaaTotals.lean).
  GIVEN WITH THE SEED: the statements are not yours to turn. If you find one false, say at which input.
  Laid BY PROGRAM, IN A SANDBOX (cutbox-rows.mjs): the forced cells as the released guide's own fill.sh prints them over the translation c449d0f93474c7c4… (all of the seat's roots in one cut). By AI agents, Wed Nov 11 2026. No macro, syntax, notation, axiom, sorry.
-/
import Derived.Test.YtblmgcfigcpoaaaChecked
import GoSem.Claim
import GoSem.ClaimJoined
import GoSem.ClaimMapViews
import Derived.JoinedTies
import Derived.KernelRfl
namespace Go.Proofs.Ytblmgcfigcpoaaa
/- THE CELL 'sum', in the pinned program and in every row, IS THE sha256 OF THE DUMP (.gsa) THAT YtblmgcfigcpoaaaProg.lean LOADS. Nothing in Lean hashes anything: it is a label: what it is worth is what the hold of that sum in a sandbox is worth. -/
noncomputable def Try.pinned : Pinned := { name := "ytblmgcfigcpoaaa", sum := "c449d0f93474c7c428cddfc515fc595ace02f7860c97f3c467142ff5ff6271be", checked := Try.checked }
namespace Rows
def none {H : Type} : Left H := { results := [], args := [] }

/-- 'signalboxlaw23.ExprParses': WHATEVER THE INPUT: true; the input reads as it did. -/
def exprParsesSpec : ChangeSpec := { name := "exprParses", fn := fun _ => fun
  | [d1, d2, d3] => { results := [.lit (.bool true)], args := [d1, d2, d3] }
  | _ => none }
def exprParsesRow : OpenClaim := { program := "ytblmgcfigcpoaaa", sum := "c449d0f93474c7c428cddfc515fc595ace02f7860c97f3c467142ff5ff6271be", func := "signalbox/signalboxlaw23.ExprParses", spec := "exprParses", unfollowed := true, recurses := true, apart := false }
def ExprParsesSaid : Prop := exprParsesRow.holds Try.pinned (OpenSpec.ofChange exprParsesSpec)

/-- ITS FALSE NEIGHBOUR: 'it returns false'. Refute it at one input. -/
def exprParsesWrong : ChangeSpec := { name := "exprParses", fn := fun _ => fun
  | [d1, d2, d3] => { results := [.lit (.bool false)], args := [d1, d2, d3] }
  | _ => none }
def ExprParsesWrongFalsely : Prop := exprParsesRow.holds Try.pinned (OpenSpec.ofChange exprParsesWrong)

/-- 'signalboxlaw23.ExprLeft': WHATEVER THE INPUT: true; the input reads as it did. -/
def exprLeftSpec : ChangeSpec := { name := "exprLeft", fn := fun _ => fun
  | [d1, d2] => { results := [.lit (.bool true)], args := [d1, d2] }
  | _ => none }
def exprLeftRow : OpenClaim := { program := "ytblmgcfigcpoaaa", sum := "c449d0f93474c7c428cddfc515fc595ace02f7860c97f3c467142ff5ff6271be", func := "signalbox/signalboxlaw23.ExprLeft", spec := "exprLeft", unfollowed := true, recurses := true, apart := false }
def ExprLeftSaid : Prop := exprLeftRow.holds Try.pinned (OpenSpec.ofChange exprLeftSpec)

/-- ITS FALSE NEIGHBOUR: 'it returns false'. Refute it at one input. -/
def exprLeftWrong : ChangeSpec := { name := "exprLeft", fn := fun _ => fun
  | [d1, d2] => { results := [.lit (.bool false)], args := [d1, d2] }
  | _ => none }
def ExprLeftWrongFalsely : Prop := exprLeftRow.holds Try.pinned (OpenSpec.ofChange exprLeftWrong)

/-- 'signalboxlaw23.ExprDeep': WHATEVER THE INPUT: true; the input reads as it did. -/
def exprDeepSpec : ChangeSpec := { name := "exprDeep", fn := fun _ => fun
  | [d1, d2, d3] => { results := [.lit (.bool true)], args := [d1, d2, d3] }
  | _ => none }
def exprDeepRow : OpenClaim := { program := "ytblmgcfigcpoaaa", sum := "c449d0f93474c7c428cddfc515fc595ace02f7860c97f3c467142ff5ff6271be", func := "signalbox/signalboxlaw23.ExprDeep", spec := "exprDeep", unfollowed := true, recurses := true, apart := false }
def ExprDeepSaid : Prop := exprDeepRow.holds Try.pinned (OpenSpec.ofChange exprDeepSpec)

/-- ITS FALSE NEIGHBOUR: 'it returns false'. Refute it at one input. -/
def exprDeepWrong : ChangeSpec := { name := "exprDeep", fn := fun _ => fun
  | [d1, d2, d3] => { results := [.lit (.bool false)], args := [d1, d2, d3] }
  | _ => none }
def ExprDeepWrongFalsely : Prop := exprDeepRow.holds Try.pinned (OpenSpec.ofChange exprDeepWrong)

/-- 'signalboxlaw23.ExprRel': WHATEVER THE INPUT: true; the input reads as it did. -/
def exprRelSpec : ChangeSpec := { name := "exprRel", fn := fun _ => fun
  | [d1, d2] => { results := [.lit (.bool true)], args := [d1, d2] }
  | _ => none }
def exprRelRow : OpenClaim := { program := "ytblmgcfigcpoaaa", sum := "c449d0f93474c7c428cddfc515fc595ace02f7860c97f3c467142ff5ff6271be", func := "signalbox/signalboxlaw23.ExprRel", spec := "exprRel", unfollowed := true, recurses := true, apart := false }
def ExprRelSaid : Prop := exprRelRow.holds Try.pinned (OpenSpec.ofChange exprRelSpec)

/-- ITS FALSE NEIGHBOUR: 'it returns false'. Refute it at one input. -/
def exprRelWrong : ChangeSpec := { name := "exprRel", fn := fun _ => fun
  | [d1, d2] => { results := [.lit (.bool false)], args := [d1, d2] }
  | _ => none }
def ExprRelWrongFalsely : Prop := exprRelRow.holds Try.pinned (OpenSpec.ofChange exprRelWrong)

/- THE SECOND FORM. 'bulk': how many values and letters a reading holds, each counted each time it is reached (what is shared counts as often as it is met; a slice's spare places count too). A statement '..UptoSaid' is the law's where the arguments, and the package variables that the reading takes, are together of bulk at most 1048576: NARROWER than '..Said'. Prove '..Said' where nothing that the law and all that it calls make is longer than what came in: it says more and counts as full. Else prove '..UptoSaid'. A law counts once. -/
mutual
def uptoBulk {H : Type} : DataW H → Nat
  | .lit (.string bytes) => bytes.length + 1
  | .lit _ => 1
  | .nil => 1
  | .ptr d => uptoBulk d + 1
  | .slice elems spare => uptoBulkAll elems + uptoBulkAll spare + 1
  | .agg parts => uptoBulkAll parts + 1
  | .iface _ d => uptoBulk d + 1
  | .map entries => uptoBulkEntries entries + 1
  | .held _ => 1
def uptoBulkAll {H : Type} : List (DataW H) → Nat
  | [] => 0
  | d :: r => uptoBulk d + uptoBulkAll r
def uptoBulkEntries {H : Type} : List (Lit × DataW H) → Nat
  | [] => 0
  | x :: r => uptoBulkEntry x + uptoBulkEntries r
def uptoBulkEntry {H : Type} : Lit × DataW H → Nat
  | (.string bytes, d) => bytes.length + uptoBulk d + 1
  | (_, d) => uptoBulk d + 1
 end
def uptoSmall : (H : Type) → List (DataW H) → Bool := fun _ ds => decide (uptoBulkAll ds ≤ 1048576)
def OpenSpec.upto (s : _root_.Go.ChangeSpec) : _root_.Go.OpenSpec := { _root_.Go.OpenSpec.ofChange s with cond := some uptoSmall }

/-- 'signalboxlaw23.ExprParses', WHERE WHAT IT READS IS OF BULK AT MOST 1048576: true; the input reads as it did. -/
def exprParsesUptoRow : OpenClaim := { program := "ytblmgcfigcpoaaa", sum := "c449d0f93474c7c428cddfc515fc595ace02f7860c97f3c467142ff5ff6271be", func := "signalbox/signalboxlaw23.ExprParses", spec := "exprParses", unfollowed := true, recurses := true, apart := false, narrowed := true }
def ExprParsesUptoSaid : Prop := exprParsesUptoRow.holds Try.pinned (OpenSpec.upto exprParsesSpec)

/-- 'signalboxlaw23.ExprLeft', WHERE WHAT IT READS IS OF BULK AT MOST 1048576: true; the input reads as it did. -/
def exprLeftUptoRow : OpenClaim := { program := "ytblmgcfigcpoaaa", sum := "c449d0f93474c7c428cddfc515fc595ace02f7860c97f3c467142ff5ff6271be", func := "signalbox/signalboxlaw23.ExprLeft", spec := "exprLeft", unfollowed := true, recurses := true, apart := false, narrowed := true }
def ExprLeftUptoSaid : Prop := exprLeftUptoRow.holds Try.pinned (OpenSpec.upto exprLeftSpec)

/-- 'signalboxlaw23.ExprDeep', WHERE WHAT IT READS IS OF BULK AT MOST 1048576: true; the input reads as it did. -/
def exprDeepUptoRow : OpenClaim := { program := "ytblmgcfigcpoaaa", sum := "c449d0f93474c7c428cddfc515fc595ace02f7860c97f3c467142ff5ff6271be", func := "signalbox/signalboxlaw23.ExprDeep", spec := "exprDeep", unfollowed := true, recurses := true, apart := false, narrowed := true }
def ExprDeepUptoSaid : Prop := exprDeepUptoRow.holds Try.pinned (OpenSpec.upto exprDeepSpec)

/-- 'signalboxlaw23.ExprRel', WHERE WHAT IT READS IS OF BULK AT MOST 1048576: true; the input reads as it did. -/
def exprRelUptoRow : OpenClaim := { program := "ytblmgcfigcpoaaa", sum := "c449d0f93474c7c428cddfc515fc595ace02f7860c97f3c467142ff5ff6271be", func := "signalbox/signalboxlaw23.ExprRel", spec := "exprRel", unfollowed := true, recurses := true, apart := false, narrowed := true }
def ExprRelUptoSaid : Prop := exprRelUptoRow.holds Try.pinned (OpenSpec.upto exprRelSpec)

end Rows
end Go.Proofs.Ytblmgcfigcpoaaa
