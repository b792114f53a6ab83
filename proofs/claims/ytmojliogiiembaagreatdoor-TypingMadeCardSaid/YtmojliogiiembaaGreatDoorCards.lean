/-
  DERIVED. GIVEN WITH THE SEED: THE CARDS: each row of YtmojliogiiembaaGreatDoorRows.lean that lists a variable, with what it lists TIED to the program's text (the seventh form; the later family's looks); each row that meets fmt, with fmt's text TOLD by the authors' own Lean function (tested against real Go, not proved from fmt's source: count such statements apart). THE CARD IS WHAT COUNTS. Prove the row's statement (the work); the ties are given (YtmojliogiiembaaGreatDoorTie.lean); close each card by the builder's one call (the guide's Derived/Test/ToyasCard.lean, 'card_holds'). Laid BY PROGRAM, IN A SANDBOX (cutbox-door.mjs). By AI agents, Wed Nov 11 2026. No macro, syntax, notation, axiom, sorry.
-/
import Derived.Test.YtmojliogiiembaaGreatDoorRows
import GoSem.ClaimSeven
namespace Go.Proofs.YtmojliogiiembaaGreatDoor
namespace Rows

/-- THE TIED CARD OF 'signalboxlaw27.TypingMade'. -/
def typingMadeCard : Claim7 := { stood := { row := typingMadeRow, standIns := [], harness := (true, "97aba1f5529703c271afb6f372025f72970ce20d8020ef2b3a0db5faec069cc5"), looks := true }, kinds := [], alts := [], laidByText := true, laidKinds := [.data, .data, .data], laidTests := true, laidLooks := .later }
def TypingMadeCardSaid : Prop := Claim7.holds Tryz.pinned (.plain (OpenSpec.ofChange typingMadeSpec)) typingMadeCard

/-- THE SECOND FORM's CARD OF 'signalboxlaw27.TypingMade'. -/
def typingMadeUptoCard : Claim7 := { stood := { row := typingMadeUptoRow, standIns := [], harness := (true, "97aba1f5529703c271afb6f372025f72970ce20d8020ef2b3a0db5faec069cc5"), looks := true }, kinds := [], alts := [], laidByText := true, laidKinds := [.data, .data, .data], laidTests := true, laidLooks := .later }
def TypingMadeUptoCardSaid : Prop := Claim7.holds Tryz.pinned (.plain (OpenSpec.upto typingMadeSpec)) typingMadeUptoCard
end Rows
end Go.Proofs.YtmojliogiiembaaGreatDoor
