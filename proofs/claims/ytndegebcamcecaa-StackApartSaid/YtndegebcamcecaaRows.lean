/-
  No cell of these rows narrows 'for every input' (looked for: loops, veiled, ifaces, maps, wideKeys, modest, calm, conditions, laid).
  DERIVED. THE GIVEN ROWS OF THIS SEAT. 4 by the template 'for every input the law returns true; each argument reads behind the call as it read before'; 0 by the template 'total and deterministic' (their statements: YtndegebcamcecaaTotals.lean).
  GIVEN WITH THE SEED: the statements are not yours to turn. If you find one false, say at which input.
  Laid BY PROGRAM, IN A SANDBOX (cutbox-rows.mjs): the forced cells as the released guide's own fill.sh prints them over the translation 7feb571a2640420d… (all of the seat's roots in one cut). By AI agents, Wed Nov 11 2026. No macro, syntax, notation, axiom, sorry.
-/
import Derived.Test.YtndegebcamcecaaChecked
import GoSem.Claim
import GoSem.ClaimJoined
import GoSem.ClaimMapViews
import Derived.JoinedTies
import Derived.KernelRfl
namespace Go.Proofs.Ytndegebcamcecaa
/- THE CELL 'sum', in the pinned program and in every row, IS THE sha256 OF THE DUMP (.gsa) THAT YtndegebcamcecaaProg.lean LOADS. Nothing in Lean hashes anything: it is a label: what it is worth is what the hold of that sum in a sandbox is worth. -/
noncomputable def Try.pinned : Pinned := { name := "ytndegebcamcecaa", sum := "7feb571a2640420d520585d6dd4934da0711773a1686333ce2497ac9aed5ffb7", checked := Try.checked }
namespace Rows
def none {H : Type} : Left H := { results := [], args := [] }

/-- 'signalboxlaw4.StackRoom': WHATEVER THE INPUT: true; the input reads as it did. -/
def stackRoomSpec : ChangeSpec := { name := "stackRoom", fn := fun _ => fun
  | [d1, d2] => { results := [.lit (.bool true)], args := [d1, d2] }
  | _ => none }
def stackRoomRow : OpenClaim := { program := "ytndegebcamcecaa", sum := "7feb571a2640420d520585d6dd4934da0711773a1686333ce2497ac9aed5ffb7", func := "signalbox/signalboxlaw4.StackRoom", spec := "stackRoom", unfollowed := true, recurses := true, apart := false }
def StackRoomSaid : Prop := stackRoomRow.holds Try.pinned (OpenSpec.ofChange stackRoomSpec)

/-- ITS FALSE NEIGHBOUR: 'it returns false'. Refute it at one input. -/
def stackRoomWrong : ChangeSpec := { name := "stackRoom", fn := fun _ => fun
  | [d1, d2] => { results := [.lit (.bool false)], args := [d1, d2] }
  | _ => none }
def StackRoomWrongFalsely : Prop := stackRoomRow.holds Try.pinned (OpenSpec.ofChange stackRoomWrong)

/-- 'signalboxlaw4.StackFrames': WHATEVER THE INPUT: true; the input reads as it did. -/
def stackFramesSpec : ChangeSpec := { name := "stackFrames", fn := fun _ => fun
  | [d1, d2, d3, d4, d5] => { results := [.lit (.bool true)], args := [d1, d2, d3, d4, d5] }
  | _ => none }
def stackFramesRow : OpenClaim := { program := "ytndegebcamcecaa", sum := "7feb571a2640420d520585d6dd4934da0711773a1686333ce2497ac9aed5ffb7", func := "signalbox/signalboxlaw4.StackFrames", spec := "stackFrames", unfollowed := true, recurses := true, apart := false }
def StackFramesSaid : Prop := stackFramesRow.holds Try.pinned (OpenSpec.ofChange stackFramesSpec)

/-- ITS FALSE NEIGHBOUR: 'it returns false'. Refute it at one input. -/
def stackFramesWrong : ChangeSpec := { name := "stackFrames", fn := fun _ => fun
  | [d1, d2, d3, d4, d5] => { results := [.lit (.bool false)], args := [d1, d2, d3, d4, d5] }
  | _ => none }
def StackFramesWrongFalsely : Prop := stackFramesRow.holds Try.pinned (OpenSpec.ofChange stackFramesWrong)

/-- 'signalboxlaw4.StackPlays': WHATEVER THE INPUT: true; the input reads as it did. -/
def stackPlaysSpec : ChangeSpec := { name := "stackPlays", fn := fun _ => fun
  | [d1, d2] => { results := [.lit (.bool true)], args := [d1, d2] }
  | _ => none }
def stackPlaysRow : OpenClaim := { program := "ytndegebcamcecaa", sum := "7feb571a2640420d520585d6dd4934da0711773a1686333ce2497ac9aed5ffb7", func := "signalbox/signalboxlaw4.StackPlays", spec := "stackPlays", unfollowed := true, recurses := true, apart := false }
def StackPlaysSaid : Prop := stackPlaysRow.holds Try.pinned (OpenSpec.ofChange stackPlaysSpec)

/-- ITS FALSE NEIGHBOUR: 'it returns false'. Refute it at one input. -/
def stackPlaysWrong : ChangeSpec := { name := "stackPlays", fn := fun _ => fun
  | [d1, d2] => { results := [.lit (.bool false)], args := [d1, d2] }
  | _ => none }
def StackPlaysWrongFalsely : Prop := stackPlaysRow.holds Try.pinned (OpenSpec.ofChange stackPlaysWrong)

/-- 'signalboxlaw4.StackApart': WHATEVER THE INPUT: true; the input reads as it did. -/
def stackApartSpec : ChangeSpec := { name := "stackApart", fn := fun _ => fun
  | [d1, d2, d3] => { results := [.lit (.bool true)], args := [d1, d2, d3] }
  | _ => none }
def stackApartRow : OpenClaim := { program := "ytndegebcamcecaa", sum := "7feb571a2640420d520585d6dd4934da0711773a1686333ce2497ac9aed5ffb7", func := "signalbox/signalboxlaw4.StackApart", spec := "stackApart", unfollowed := true, recurses := true, apart := false }
def StackApartSaid : Prop := stackApartRow.holds Try.pinned (OpenSpec.ofChange stackApartSpec)

/-- ITS FALSE NEIGHBOUR: 'it returns false'. Refute it at one input. -/
def stackApartWrong : ChangeSpec := { name := "stackApart", fn := fun _ => fun
  | [d1, d2, d3] => { results := [.lit (.bool false)], args := [d1, d2, d3] }
  | _ => none }
def StackApartWrongFalsely : Prop := stackApartRow.holds Try.pinned (OpenSpec.ofChange stackApartWrong)

/- THE SECOND FORM. 'bulk': how many values and letters a reading holds, each counted each time it is reached (what is shared counts as often as it is met; a slice's spare places count too). A statement '..UptoSaid' is the law's where the arguments, and the package variables that the reading takes, are together of bulk at most 1048576: NARROWER than '..Said'. Prove '..Said' where nothing that the law and all that it calls make is longer than what came in: it says more and counts as full. Else prove '..UptoSaid'. A law counts once. -/
mutual
def uptoBulk {H : Type} : DataW H → Nat
  | .lit (.string bytes) => bytes.length + 1
  | .lit _ => 1
  | .nil => 1
  | .ptr d => uptoBulk d + 1
  | .slice elems spare => uptoBulkAll elems + uptoBulkAll spare + 1
  | .agg parts => uptoBulkAll parts + 1
  | .iface _ d => uptoBulk d + 1
  | .map entries => uptoBulkEntries entries + 1
  | .held _ => 1
def uptoBulkAll {H : Type} : List (DataW H) → Nat
  | [] => 0
  | d :: r => uptoBulk d + uptoBulkAll r
def uptoBulkEntries {H : Type} : List (Lit × DataW H) → Nat
  | [] => 0
  | x :: r => uptoBulkEntry x + uptoBulkEntries r
def uptoBulkEntry {H : Type} : Lit × DataW H → Nat
  | (.string bytes, d) => bytes.length + uptoBulk d + 1
  | (_, d) => uptoBulk d + 1
 end
def uptoSmall : (H : Type) → List (DataW H) → Bool := fun _ ds => decide (uptoBulkAll ds ≤ 1048576)
def OpenSpec.upto (s : _root_.Go.ChangeSpec) : _root_.Go.OpenSpec := { _root_.Go.OpenSpec.ofChange s with cond := some uptoSmall }

/-- 'signalboxlaw4.StackRoom', WHERE WHAT IT READS IS OF BULK AT MOST 1048576: true; the input reads as it did. -/
def stackRoomUptoRow : OpenClaim := { program := "ytndegebcamcecaa", sum := "7feb571a2640420d520585d6dd4934da0711773a1686333ce2497ac9aed5ffb7", func := "signalbox/signalboxlaw4.StackRoom", spec := "stackRoom", unfollowed := true, recurses := true, apart := false, narrowed := true }
def StackRoomUptoSaid : Prop := stackRoomUptoRow.holds Try.pinned (OpenSpec.upto stackRoomSpec)

/-- 'signalboxlaw4.StackFrames', WHERE WHAT IT READS IS OF BULK AT MOST 1048576: true; the input reads as it did. -/
def stackFramesUptoRow : OpenClaim := { program := "ytndegebcamcecaa", sum := "7feb571a2640420d520585d6dd4934da0711773a1686333ce2497ac9aed5ffb7", func := "signalbox/signalboxlaw4.StackFrames", spec := "stackFrames", unfollowed := true, recurses := true, apart := false, narrowed := true }
def StackFramesUptoSaid : Prop := stackFramesUptoRow.holds Try.pinned (OpenSpec.upto stackFramesSpec)

/-- 'signalboxlaw4.StackPlays', WHERE WHAT IT READS IS OF BULK AT MOST 1048576: true; the input reads as it did. -/
def stackPlaysUptoRow : OpenClaim := { program := "ytndegebcamcecaa", sum := "7feb571a2640420d520585d6dd4934da0711773a1686333ce2497ac9aed5ffb7", func := "signalbox/signalboxlaw4.StackPlays", spec := "stackPlays", unfollowed := true, recurses := true, apart := false, narrowed := true }
def StackPlaysUptoSaid : Prop := stackPlaysUptoRow.holds Try.pinned (OpenSpec.upto stackPlaysSpec)

/-- 'signalboxlaw4.StackApart', WHERE WHAT IT READS IS OF BULK AT MOST 1048576: true; the input reads as it did. -/
def stackApartUptoRow : OpenClaim := { program := "ytndegebcamcecaa", sum := "7feb571a2640420d520585d6dd4934da0711773a1686333ce2497ac9aed5ffb7", func := "signalbox/signalboxlaw4.StackApart", spec := "stackApart", unfollowed := true, recurses := true, apart := false, narrowed := true }
def StackApartUptoSaid : Prop := stackApartUptoRow.holds Try.pinned (OpenSpec.upto stackApartSpec)

end Rows
end Go.Proofs.Ytndegebcamcecaa
