/-
  No cell of these rows narrows 'for every input' (looked for: loops, veiled, ifaces, maps, wideKeys, modest, calm, conditions, laid).
  DERIVED. THE GIVEN ROWS OF THIS SEAT. 3 by the template 'for every input the law returns true; each argument reads behind the call as it read before'; 0 by the template 'total and deterministic' (their statements: YtbjcfdopkaekjaaTotals.lean).
  GIVEN WITH THE SEED: the statements are not yours to turn. If you find one false, say at which input.
  Laid BY PROGRAM, IN A SANDBOX (cutbox-rows.mjs): the forced cells as the released guide's own fill.sh prints them over the translation 535e38254b358664… (all of the seat's roots in one cut). By AI agents, Wed Nov 11 2026. No macro, syntax, notation, axiom, sorry.
-/
import Derived.Test.YtbjcfdopkaekjaaChecked
import GoSem.Claim
import GoSem.ClaimJoined
import GoSem.ClaimMapViews
import Derived.JoinedTies
import Derived.KernelRfl
namespace Go.Proofs.Ytbjcfdopkaekjaa
/- THE CELL 'sum', in the pinned program and in every row, IS THE sha256 OF THE DUMP (.gsa) THAT YtbjcfdopkaekjaaProg.lean LOADS. Nothing in Lean hashes anything: it is a label: what it is worth is what the hold of that sum in a sandbox is worth. -/
noncomputable def Try.pinned : Pinned := { name := "ytbjcfdopkaekjaa", sum := "535e38254b3586648c9a40f80f73fa156c455b182001268e0644a6a1301dd087", checked := Try.checked }
namespace Rows
def none {H : Type} : Left H := { results := [], args := [] }

/-- 'signalboxlaw26.ScopeBuilds': WHATEVER THE INPUT: true; the input reads as it did. -/
def scopeBuildsSpec : ChangeSpec := { name := "scopeBuilds", fn := fun _ => fun
  | [d1, d2] => { results := [.lit (.bool true)], args := [d1, d2] }
  | _ => none }
def scopeBuildsRow : OpenClaim := { program := "ytbjcfdopkaekjaa", sum := "535e38254b3586648c9a40f80f73fa156c455b182001268e0644a6a1301dd087", func := "signalbox/signalboxlaw26.ScopeBuilds", spec := "scopeBuilds", unfollowed := true, recurses := true, apart := false }
def ScopeBuildsSaid : Prop := scopeBuildsRow.holds Try.pinned (OpenSpec.ofChange scopeBuildsSpec)

/-- ITS FALSE NEIGHBOUR: 'it returns false'. Refute it at one input. -/
def scopeBuildsWrong : ChangeSpec := { name := "scopeBuilds", fn := fun _ => fun
  | [d1, d2] => { results := [.lit (.bool false)], args := [d1, d2] }
  | _ => none }
def ScopeBuildsWrongFalsely : Prop := scopeBuildsRow.holds Try.pinned (OpenSpec.ofChange scopeBuildsWrong)

/-- 'signalboxlaw27.TypingAll': WHATEVER THE INPUT: true; the input reads as it did. -/
def typingAllSpec : ChangeSpec := { name := "typingAll", fn := fun _ => fun
  | [d] => { results := [.lit (.bool true)], args := [d] }
  | _ => none }
def typingAllRow : OpenClaim := { program := "ytbjcfdopkaekjaa", sum := "535e38254b3586648c9a40f80f73fa156c455b182001268e0644a6a1301dd087", func := "signalbox/signalboxlaw27.TypingAll", spec := "typingAll", unfollowed := true, recurses := true, apart := false }
def TypingAllSaid : Prop := typingAllRow.holds Try.pinned (OpenSpec.ofChange typingAllSpec)

/-- ITS FALSE NEIGHBOUR: 'it returns false'. Refute it at one input. -/
def typingAllWrong : ChangeSpec := { name := "typingAll", fn := fun _ => fun
  | [d] => { results := [.lit (.bool false)], args := [d] }
  | _ => none }
def TypingAllWrongFalsely : Prop := typingAllRow.holds Try.pinned (OpenSpec.ofChange typingAllWrong)

/-- 'signalboxlaw27.TypingKinds': WHATEVER THE INPUT: true; the input reads as it did. -/
def typingKindsSpec : ChangeSpec := { name := "typingKinds", fn := fun _ => fun
  | [d1, d2, d3] => { results := [.lit (.bool true)], args := [d1, d2, d3] }
  | _ => none }
def typingKindsRow : OpenClaim := { program := "ytbjcfdopkaekjaa", sum := "535e38254b3586648c9a40f80f73fa156c455b182001268e0644a6a1301dd087", func := "signalbox/signalboxlaw27.TypingKinds", spec := "typingKinds", unfollowed := true, recurses := true, apart := false }
def TypingKindsSaid : Prop := typingKindsRow.holds Try.pinned (OpenSpec.ofChange typingKindsSpec)

/-- ITS FALSE NEIGHBOUR: 'it returns false'. Refute it at one input. -/
def typingKindsWrong : ChangeSpec := { name := "typingKinds", fn := fun _ => fun
  | [d1, d2, d3] => { results := [.lit (.bool false)], args := [d1, d2, d3] }
  | _ => none }
def TypingKindsWrongFalsely : Prop := typingKindsRow.holds Try.pinned (OpenSpec.ofChange typingKindsWrong)

/- THE SECOND FORM. 'bulk': how many values and letters a reading holds, each counted each time it is reached (what is shared counts as often as it is met; a slice's spare places count too). A statement '..UptoSaid' is the law's where the arguments, and the package variables that the reading takes, are together of bulk at most 1048576: NARROWER than '..Said'. Prove '..Said' where nothing that the law and all that it calls make is longer than what came in: it says more and counts as full. Else prove '..UptoSaid'. A law counts once. -/
mutual
def uptoBulk {H : Type} : DataW H → Nat
  | .lit (.string bytes) => bytes.length + 1
  | .lit _ => 1
  | .nil => 1
  | .ptr d => uptoBulk d + 1
  | .slice elems spare => uptoBulkAll elems + uptoBulkAll spare + 1
  | .agg parts => uptoBulkAll parts + 1
  | .iface _ d => uptoBulk d + 1
  | .map entries => uptoBulkEntries entries + 1
  | .held _ => 1
def uptoBulkAll {H : Type} : List (DataW H) → Nat
  | [] => 0
  | d :: r => uptoBulk d + uptoBulkAll r
def uptoBulkEntries {H : Type} : List (Lit × DataW H) → Nat
  | [] => 0
  | x :: r => uptoBulkEntry x + uptoBulkEntries r
def uptoBulkEntry {H : Type} : Lit × DataW H → Nat
  | (.string bytes, d) => bytes.length + uptoBulk d + 1
  | (_, d) => uptoBulk d + 1
 end
def uptoSmall : (H : Type) → List (DataW H) → Bool := fun _ ds => decide (uptoBulkAll ds ≤ 1048576)
def OpenSpec.upto (s : _root_.Go.ChangeSpec) : _root_.Go.OpenSpec := { _root_.Go.OpenSpec.ofChange s with cond := some uptoSmall }

/-- 'signalboxlaw26.ScopeBuilds', WHERE WHAT IT READS IS OF BULK AT MOST 1048576: true; the input reads as it did. -/
def scopeBuildsUptoRow : OpenClaim := { program := "ytbjcfdopkaekjaa", sum := "535e38254b3586648c9a40f80f73fa156c455b182001268e0644a6a1301dd087", func := "signalbox/signalboxlaw26.ScopeBuilds", spec := "scopeBuilds", unfollowed := true, recurses := true, apart := false, narrowed := true }
def ScopeBuildsUptoSaid : Prop := scopeBuildsUptoRow.holds Try.pinned (OpenSpec.upto scopeBuildsSpec)

/-- 'signalboxlaw27.TypingAll', WHERE WHAT IT READS IS OF BULK AT MOST 1048576: true; the input reads as it did. -/
def typingAllUptoRow : OpenClaim := { program := "ytbjcfdopkaekjaa", sum := "535e38254b3586648c9a40f80f73fa156c455b182001268e0644a6a1301dd087", func := "signalbox/signalboxlaw27.TypingAll", spec := "typingAll", unfollowed := true, recurses := true, apart := false, narrowed := true }
def TypingAllUptoSaid : Prop := typingAllUptoRow.holds Try.pinned (OpenSpec.upto typingAllSpec)

/-- 'signalboxlaw27.TypingKinds', WHERE WHAT IT READS IS OF BULK AT MOST 1048576: true; the input reads as it did. -/
def typingKindsUptoRow : OpenClaim := { program := "ytbjcfdopkaekjaa", sum := "535e38254b3586648c9a40f80f73fa156c455b182001268e0644a6a1301dd087", func := "signalbox/signalboxlaw27.TypingKinds", spec := "typingKinds", unfollowed := true, recurses := true, apart := false, narrowed := true }
def TypingKindsUptoSaid : Prop := typingKindsUptoRow.holds Try.pinned (OpenSpec.upto typingKindsSpec)

end Rows
end Go.Proofs.Ytbjcfdopkaekjaa
