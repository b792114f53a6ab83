/-
  DERIVED. GIVEN WITH THE SEED: THE CARDS: each row of YtmjldhaghaphnaaGreatDoorRows.lean that lists a variable, with what it lists TIED to the program's text (the seventh form; the later family's looks); each row that meets fmt, with fmt's text TOLD by the authors' own Lean function (tested against real Go, not proved from fmt's source: count such statements apart). THE CARD IS WHAT COUNTS. Prove the row's statement (the work); the ties are given (YtmjldhaghaphnaaGreatDoorTie.lean); close each card by the builder's one call (the guide's Derived/Test/ToyasCard.lean, 'card_holds'). Laid BY PROGRAM, IN A SANDBOX (cutbox-door.mjs). By AI agents, Wed Nov 11 2026. No macro, syntax, notation, axiom, sorry.
-/
import Derived.Test.YtmjldhaghaphnaaGreatDoorRows
import GoSem.ClaimSeven
namespace Go.Proofs.YtmjldhaghaphnaaGreatDoor
namespace Rows

/-- THE TIED CARD OF 'signalboxlaw22.TreeAlike'. -/
def treeAlikeCard : Claim7 := { stood := { row := treeAlikeRow, standIns := [], harness := (true, "067c15d6ffb29f3a2c387450df4d9b27c487dd2ab5117f0344bd4c83f30489d8"), looks := false }, kinds := [], alts := [], laidByText := true, laidKinds := [.data, .data, .data], laidTests := true, laidLooks := .later }
def TreeAlikeCardSaid : Prop := Claim7.holds Tryz.pinned (.plain (OpenSpec.ofChange treeAlikeSpec)) treeAlikeCard

/-- THE SECOND FORM's CARD OF 'signalboxlaw22.TreeAlike'. -/
def treeAlikeUptoCard : Claim7 := { stood := { row := treeAlikeUptoRow, standIns := [], harness := (true, "067c15d6ffb29f3a2c387450df4d9b27c487dd2ab5117f0344bd4c83f30489d8"), looks := false }, kinds := [], alts := [], laidByText := true, laidKinds := [.data, .data, .data], laidTests := true, laidLooks := .later }
def TreeAlikeUptoCardSaid : Prop := Claim7.holds Tryz.pinned (.plain (OpenSpec.upto treeAlikeSpec)) treeAlikeUptoCard
end Rows
end Go.Proofs.YtmjldhaghaphnaaGreatDoor
