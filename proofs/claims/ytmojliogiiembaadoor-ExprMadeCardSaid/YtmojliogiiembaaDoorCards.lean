/-
  DERIVED. GIVEN WITH THE SEED: THE CARDS: each row of YtmojliogiiembaaDoorRows.lean that lists a variable, with what it lists TIED to the program's text (the seventh form; the later family's looks); each row that meets fmt, with fmt's text TOLD by the authors' own Lean function (tested against real Go, not proved from fmt's source: count such statements apart). THE CARD IS WHAT COUNTS. Prove the row's statement (the work); the ties are given (YtmojliogiiembaaDoorTie.lean); close each card by the builder's one call (the guide's Derived/Test/ToyasCard.lean, 'card_holds'). Laid BY PROGRAM, IN A SANDBOX (cutbox-door.mjs). By AI agents, Wed Nov 11 2026. No macro, syntax, notation, axiom, sorry.
-/
import Derived.Test.YtmojliogiiembaaDoorRows
import GoSem.ClaimSeven
namespace Go.Proofs.YtmojliogiiembaaDoor
namespace Rows

/-- THE TIED CARD OF 'signalboxlaw23.ExprMade'. -/
def exprMadeCard : Claim7 := { stood := { row := exprMadeRow, standIns := [], harness := (true, "3522e8f914b91d093a7a3f1053f35e397cf625da81300573104e95116be217bc"), looks := false }, kinds := [], alts := [], laidByText := true, laidKinds := [.data, .data, .data], laidTests := true, laidLooks := .later }
def ExprMadeCardSaid : Prop := Claim7.holds Tryd.pinned (.plain (OpenSpec.ofChange exprMadeSpec)) exprMadeCard

/-- THE TIED CARD OF 'signalboxlaw26.ScopeMade'. -/
def scopeMadeCard : Claim7 := { stood := { row := scopeMadeRow, standIns := [], harness := (true, "3522e8f914b91d093a7a3f1053f35e397cf625da81300573104e95116be217bc"), looks := false }, kinds := [], alts := [], laidByText := true, laidKinds := [.data, .data, .data], laidTests := true, laidLooks := .later }
def ScopeMadeCardSaid : Prop := Claim7.holds Tryd.pinned (.plain (OpenSpec.ofChange scopeMadeSpec)) scopeMadeCard

/-- THE SECOND FORM's CARD OF 'signalboxlaw23.ExprMade'. -/
def exprMadeUptoCard : Claim7 := { stood := { row := exprMadeUptoRow, standIns := [], harness := (true, "3522e8f914b91d093a7a3f1053f35e397cf625da81300573104e95116be217bc"), looks := false }, kinds := [], alts := [], laidByText := true, laidKinds := [.data, .data, .data], laidTests := true, laidLooks := .later }
def ExprMadeUptoCardSaid : Prop := Claim7.holds Tryd.pinned (.plain (OpenSpec.upto exprMadeSpec)) exprMadeUptoCard

/-- THE SECOND FORM's CARD OF 'signalboxlaw26.ScopeMade'. -/
def scopeMadeUptoCard : Claim7 := { stood := { row := scopeMadeUptoRow, standIns := [], harness := (true, "3522e8f914b91d093a7a3f1053f35e397cf625da81300573104e95116be217bc"), looks := false }, kinds := [], alts := [], laidByText := true, laidKinds := [.data, .data, .data], laidTests := true, laidLooks := .later }
def ScopeMadeUptoCardSaid : Prop := Claim7.holds Tryd.pinned (.plain (OpenSpec.upto scopeMadeSpec)) scopeMadeUptoCard
end Rows
end Go.Proofs.YtmojliogiiembaaDoor
