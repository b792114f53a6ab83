/-
  DERIVED. GIVEN WITH THE SEED: THE CARDS: each row of YtdfikboiplmjnaaGreatDoorRows.lean that lists a variable, with what it lists TIED to the program's text (the seventh form; the later family's looks); each row that meets fmt, with fmt's text TOLD by the authors' own Lean function (tested against real Go, not proved from fmt's source: count such statements apart). THE CARD IS WHAT COUNTS. Prove the row's statement (the work); the ties are given (YtdfikboiplmjnaaGreatDoorTie.lean); close each card by the builder's one call (the guide's Derived/Test/ToyasCard.lean, 'card_holds'). Laid BY PROGRAM, IN A SANDBOX (cutbox-door.mjs). By AI agents, Wed Nov 11 2026. No macro, syntax, notation, axiom, sorry.
-/
import Derived.Test.YtdfikboiplmjnaaGreatDoorRows
import GoSem.ClaimSeven
namespace Go.Proofs.YtdfikboiplmjnaaGreatDoor
namespace Rows

/-- THE TIED CARD OF 'signalboxlaw27.TypingMade'. -/
def typingMadeCard : Claim7 := { stood := { row := typingMadeRow, standIns := [], harness := (true, "e2617eb046f899732a01fcae1d344affc58ffb84262725dccfed25833648f93e"), looks := true }, kinds := [], alts := [], laidByText := true, laidKinds := [.data, .data, .data], laidTests := true, laidLooks := .later }
def TypingMadeCardSaid : Prop := Claim7.holds Tryz.pinned (.plain (OpenSpec.ofChange typingMadeSpec)) typingMadeCard

/-- THE TIED CARD OF 'signalboxlaw27.TypingExprs'. -/
def typingExprsCard : Claim7 := { stood := { row := typingExprsRow, standIns := [], harness := (true, "e2617eb046f899732a01fcae1d344affc58ffb84262725dccfed25833648f93e"), looks := true }, kinds := [], alts := [], laidByText := true, laidKinds := [.data, .data, .data], laidTests := true, laidLooks := .later }
def TypingExprsCardSaid : Prop := Claim7.holds Tryz.pinned (.plain (OpenSpec.ofChange typingExprsSpec)) typingExprsCard

/-- THE TIED CARD OF 'signalboxlaw27.TypingShared'. -/
def typingSharedCard : Claim7 := { stood := { row := typingSharedRow, standIns := [], harness := (true, "e2617eb046f899732a01fcae1d344affc58ffb84262725dccfed25833648f93e"), looks := true }, kinds := [], alts := [], laidByText := true, laidKinds := [.data, .data, .data], laidTests := true, laidLooks := .later }
def TypingSharedCardSaid : Prop := Claim7.holds Tryz.pinned (.plain (OpenSpec.ofChange typingSharedSpec)) typingSharedCard

/-- THE SECOND FORM's CARD OF 'signalboxlaw27.TypingMade'. -/
def typingMadeUptoCard : Claim7 := { stood := { row := typingMadeUptoRow, standIns := [], harness := (true, "e2617eb046f899732a01fcae1d344affc58ffb84262725dccfed25833648f93e"), looks := true }, kinds := [], alts := [], laidByText := true, laidKinds := [.data, .data, .data], laidTests := true, laidLooks := .later }
def TypingMadeUptoCardSaid : Prop := Claim7.holds Tryz.pinned (.plain (OpenSpec.upto typingMadeSpec)) typingMadeUptoCard

/-- THE SECOND FORM's CARD OF 'signalboxlaw27.TypingExprs'. -/
def typingExprsUptoCard : Claim7 := { stood := { row := typingExprsUptoRow, standIns := [], harness := (true, "e2617eb046f899732a01fcae1d344affc58ffb84262725dccfed25833648f93e"), looks := true }, kinds := [], alts := [], laidByText := true, laidKinds := [.data, .data, .data], laidTests := true, laidLooks := .later }
def TypingExprsUptoCardSaid : Prop := Claim7.holds Tryz.pinned (.plain (OpenSpec.upto typingExprsSpec)) typingExprsUptoCard

/-- THE SECOND FORM's CARD OF 'signalboxlaw27.TypingShared'. -/
def typingSharedUptoCard : Claim7 := { stood := { row := typingSharedUptoRow, standIns := [], harness := (true, "e2617eb046f899732a01fcae1d344affc58ffb84262725dccfed25833648f93e"), looks := true }, kinds := [], alts := [], laidByText := true, laidKinds := [.data, .data, .data], laidTests := true, laidLooks := .later }
def TypingSharedUptoCardSaid : Prop := Claim7.holds Tryz.pinned (.plain (OpenSpec.upto typingSharedSpec)) typingSharedUptoCard
end Rows
end Go.Proofs.YtdfikboiplmjnaaGreatDoor
