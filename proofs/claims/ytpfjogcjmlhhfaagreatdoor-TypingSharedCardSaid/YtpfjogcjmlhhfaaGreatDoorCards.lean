/-
  DERIVED. GIVEN WITH THE SEED: THE CARDS: each row of YtpfjogcjmlhhfaaGreatDoorRows.lean that lists a variable, with what it lists TIED to the program's text (the seventh form; the later family's looks); each row that meets fmt, with fmt's text TOLD by the authors' own Lean function (tested against real Go, not proved from fmt's source: count such statements apart). THE CARD IS WHAT COUNTS. Prove the row's statement (the work); the ties are given (YtpfjogcjmlhhfaaGreatDoorTie.lean); close each card by the builder's one call (the guide's Derived/Test/ToyasCard.lean, 'card_holds'). Laid BY PROGRAM, IN A SANDBOX (cutbox-door.mjs). By AI agents, Wed Nov 11 2026. No macro, syntax, notation, axiom, sorry.
-/
import Derived.Test.YtpfjogcjmlhhfaaGreatDoorRows
import GoSem.ClaimSeven
namespace Go.Proofs.YtpfjogcjmlhhfaaGreatDoor
namespace Rows

/-- THE TIED CARD OF 'signalboxlaw27.TypingShared'. -/
def typingSharedCard : Claim7 := { stood := { row := typingSharedRow, standIns := [], harness := (true, "da708664d7626e8f15d7cd86a9908ab615d0277fe87d0b97f32a45e536013723"), looks := true }, kinds := [], alts := [], laidByText := true, laidKinds := [.data, .data, .data], laidTests := true, laidLooks := .later }
def TypingSharedCardSaid : Prop := Claim7.holds Tryz.pinned (.plain (OpenSpec.ofChange typingSharedSpec)) typingSharedCard

/-- THE SECOND FORM's CARD OF 'signalboxlaw27.TypingShared'. -/
def typingSharedUptoCard : Claim7 := { stood := { row := typingSharedUptoRow, standIns := [], harness := (true, "da708664d7626e8f15d7cd86a9908ab615d0277fe87d0b97f32a45e536013723"), looks := true }, kinds := [], alts := [], laidByText := true, laidKinds := [.data, .data, .data], laidTests := true, laidLooks := .later }
def TypingSharedUptoCardSaid : Prop := Claim7.holds Tryz.pinned (.plain (OpenSpec.upto typingSharedSpec)) typingSharedUptoCard
end Rows
end Go.Proofs.YtpfjogcjmlhhfaaGreatDoor
