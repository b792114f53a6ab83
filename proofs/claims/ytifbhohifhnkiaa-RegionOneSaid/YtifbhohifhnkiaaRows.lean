/-
  No cell of these rows narrows 'for every input' (looked for: loops, veiled, ifaces, maps, wideKeys, modest, calm, conditions, laid).
  DERIVED. THE GIVEN ROWS OF THIS SEAT. 12 by the template 'for every input the law returns true; each argument reads behind the call as it read before'; 0 by the template 'total and deterministic' (their statements: YtifbhohifhnkiaaTotals.lean).
  GIVEN WITH THE SEED: the statements are not yours to turn. If you find one false, say at which input.
  Laid BY PROGRAM, IN A SANDBOX (cutbox-rows.mjs): the forced cells as the released guide's own fill.sh prints them over the translation 4f1e78158356b55d… (all of the seat's roots in one cut). By AI agents, Wed Nov 11 2026. No macro, syntax, notation, axiom, sorry.
-/
import Derived.Test.YtifbhohifhnkiaaChecked
import GoSem.Claim
import GoSem.ClaimJoined
import GoSem.ClaimMapViews
import Derived.JoinedTies
import Derived.KernelRfl
namespace Go.Proofs.Ytifbhohifhnkiaa
/- THE CELL 'sum', in the pinned program and in every row, IS THE sha256 OF THE DUMP (.gsa) THAT YtifbhohifhnkiaaProg.lean LOADS. Nothing in Lean hashes anything: it is a label: what it is worth is what the hold of that sum in a sandbox is worth. -/
noncomputable def Try.pinned : Pinned := { name := "ytifbhohifhnkiaa", sum := "4f1e78158356b55ddb05b5ff5fa89b9ec4f040c09f457bcb0bb57fd151f9aa6e", checked := Try.checked }
namespace Rows
def none {H : Type} : Left H := { results := [], args := [] }

/-- 'signalboxlaw2.StorePlays': WHATEVER THE INPUT: true; the input reads as it did. -/
def storePlaysSpec : ChangeSpec := { name := "storePlays", fn := fun _ => fun
  | [d1, d2] => { results := [.lit (.bool true)], args := [d1, d2] }
  | _ => none }
def storePlaysRow : OpenClaim := { program := "ytifbhohifhnkiaa", sum := "4f1e78158356b55ddb05b5ff5fa89b9ec4f040c09f457bcb0bb57fd151f9aa6e", func := "signalbox/signalboxlaw2.StorePlays", spec := "storePlays", apart := false }
def StorePlaysSaid : Prop := storePlaysRow.holds Try.pinned (OpenSpec.ofChange storePlaysSpec)

/-- ITS FALSE NEIGHBOUR: 'it returns false'. Refute it at one input. -/
def storePlaysWrong : ChangeSpec := { name := "storePlays", fn := fun _ => fun
  | [d1, d2] => { results := [.lit (.bool false)], args := [d1, d2] }
  | _ => none }
def StorePlaysWrongFalsely : Prop := storePlaysRow.holds Try.pinned (OpenSpec.ofChange storePlaysWrong)

/-- 'signalboxlaw2.StoreLast': WHATEVER THE INPUT: true; the input reads as it did. -/
def storeLastSpec : ChangeSpec := { name := "storeLast", fn := fun _ => fun
  | [d1, d2, d3, d4] => { results := [.lit (.bool true)], args := [d1, d2, d3, d4] }
  | _ => none }
def storeLastRow : OpenClaim := { program := "ytifbhohifhnkiaa", sum := "4f1e78158356b55ddb05b5ff5fa89b9ec4f040c09f457bcb0bb57fd151f9aa6e", func := "signalbox/signalboxlaw2.StoreLast", spec := "storeLast", apart := false }
def StoreLastSaid : Prop := storeLastRow.holds Try.pinned (OpenSpec.ofChange storeLastSpec)

/-- ITS FALSE NEIGHBOUR: 'it returns false'. Refute it at one input. -/
def storeLastWrong : ChangeSpec := { name := "storeLast", fn := fun _ => fun
  | [d1, d2, d3, d4] => { results := [.lit (.bool false)], args := [d1, d2, d3, d4] }
  | _ => none }
def StoreLastWrongFalsely : Prop := storeLastRow.holds Try.pinned (OpenSpec.ofChange storeLastWrong)

/-- 'signalboxlaw2.StoreClears': WHATEVER THE INPUT: true; the input reads as it did. -/
def storeClearsSpec : ChangeSpec := { name := "storeClears", fn := fun _ => fun
  | [d1, d2, d3] => { results := [.lit (.bool true)], args := [d1, d2, d3] }
  | _ => none }
def storeClearsRow : OpenClaim := { program := "ytifbhohifhnkiaa", sum := "4f1e78158356b55ddb05b5ff5fa89b9ec4f040c09f457bcb0bb57fd151f9aa6e", func := "signalbox/signalboxlaw2.StoreClears", spec := "storeClears", apart := false }
def StoreClearsSaid : Prop := storeClearsRow.holds Try.pinned (OpenSpec.ofChange storeClearsSpec)

/-- ITS FALSE NEIGHBOUR: 'it returns false'. Refute it at one input. -/
def storeClearsWrong : ChangeSpec := { name := "storeClears", fn := fun _ => fun
  | [d1, d2, d3] => { results := [.lit (.bool false)], args := [d1, d2, d3] }
  | _ => none }
def StoreClearsWrongFalsely : Prop := storeClearsRow.holds Try.pinned (OpenSpec.ofChange storeClearsWrong)

/-- 'signalboxlaw2.StoreNothing': WHATEVER THE INPUT: true; the input reads as it did. -/
def storeNothingSpec : ChangeSpec := { name := "storeNothing", fn := fun _ => fun
  | [d1, d2, d3] => { results := [.lit (.bool true)], args := [d1, d2, d3] }
  | _ => none }
def storeNothingRow : OpenClaim := { program := "ytifbhohifhnkiaa", sum := "4f1e78158356b55ddb05b5ff5fa89b9ec4f040c09f457bcb0bb57fd151f9aa6e", func := "signalbox/signalboxlaw2.StoreNothing", spec := "storeNothing", apart := false }
def StoreNothingSaid : Prop := storeNothingRow.holds Try.pinned (OpenSpec.ofChange storeNothingSpec)

/-- ITS FALSE NEIGHBOUR: 'it returns false'. Refute it at one input. -/
def storeNothingWrong : ChangeSpec := { name := "storeNothing", fn := fun _ => fun
  | [d1, d2, d3] => { results := [.lit (.bool false)], args := [d1, d2, d3] }
  | _ => none }
def StoreNothingWrongFalsely : Prop := storeNothingRow.holds Try.pinned (OpenSpec.ofChange storeNothingWrong)

/-- 'signalboxlaw11.SemaPlays': WHATEVER THE INPUT: true; the input reads as it did. -/
def semaPlaysSpec : ChangeSpec := { name := "semaPlays", fn := fun _ => fun
  | [d1, d2] => { results := [.lit (.bool true)], args := [d1, d2] }
  | _ => none }
def semaPlaysRow : OpenClaim := { program := "ytifbhohifhnkiaa", sum := "4f1e78158356b55ddb05b5ff5fa89b9ec4f040c09f457bcb0bb57fd151f9aa6e", func := "signalbox/signalboxlaw11.SemaPlays", spec := "semaPlays", inPlace := ["sync/atomic.StoreInt64", "sync/atomic.LoadInt64", "sync/atomic.AddInt64"], apart := false }
def SemaPlaysSaid : Prop := semaPlaysRow.holds Try.pinned (OpenSpec.ofChange semaPlaysSpec)

/-- ITS FALSE NEIGHBOUR: 'it returns false'. Refute it at one input. -/
def semaPlaysWrong : ChangeSpec := { name := "semaPlays", fn := fun _ => fun
  | [d1, d2] => { results := [.lit (.bool false)], args := [d1, d2] }
  | _ => none }
def SemaPlaysWrongFalsely : Prop := semaPlaysRow.holds Try.pinned (OpenSpec.ofChange semaPlaysWrong)

/-- 'signalboxlaw11.SemaCounts': WHATEVER THE INPUT: true; the input reads as it did. -/
def semaCountsSpec : ChangeSpec := { name := "semaCounts", fn := fun _ => fun
  | [d1, d2] => { results := [.lit (.bool true)], args := [d1, d2] }
  | _ => none }
def semaCountsRow : OpenClaim := { program := "ytifbhohifhnkiaa", sum := "4f1e78158356b55ddb05b5ff5fa89b9ec4f040c09f457bcb0bb57fd151f9aa6e", func := "signalbox/signalboxlaw11.SemaCounts", spec := "semaCounts", inPlace := ["sync/atomic.StoreInt64", "sync/atomic.LoadInt64", "sync/atomic.AddInt64"], apart := false }
def SemaCountsSaid : Prop := semaCountsRow.holds Try.pinned (OpenSpec.ofChange semaCountsSpec)

/-- ITS FALSE NEIGHBOUR: 'it returns false'. Refute it at one input. -/
def semaCountsWrong : ChangeSpec := { name := "semaCounts", fn := fun _ => fun
  | [d1, d2] => { results := [.lit (.bool false)], args := [d1, d2] }
  | _ => none }
def SemaCountsWrongFalsely : Prop := semaCountsRow.holds Try.pinned (OpenSpec.ofChange semaCountsWrong)

/-- 'signalboxlaw11.SemaOrder': WHATEVER THE INPUT: true; the input reads as it did. -/
def semaOrderSpec : ChangeSpec := { name := "semaOrder", fn := fun _ => fun
  | [d1, d2, d3] => { results := [.lit (.bool true)], args := [d1, d2, d3] }
  | _ => none }
def semaOrderRow : OpenClaim := { program := "ytifbhohifhnkiaa", sum := "4f1e78158356b55ddb05b5ff5fa89b9ec4f040c09f457bcb0bb57fd151f9aa6e", func := "signalbox/signalboxlaw11.SemaOrder", spec := "semaOrder", inPlace := ["sync/atomic.StoreInt64", "sync/atomic.LoadInt64", "sync/atomic.AddInt64"], apart := false }
def SemaOrderSaid : Prop := semaOrderRow.holds Try.pinned (OpenSpec.ofChange semaOrderSpec)

/-- ITS FALSE NEIGHBOUR: 'it returns false'. Refute it at one input. -/
def semaOrderWrong : ChangeSpec := { name := "semaOrder", fn := fun _ => fun
  | [d1, d2, d3] => { results := [.lit (.bool false)], args := [d1, d2, d3] }
  | _ => none }
def SemaOrderWrongFalsely : Prop := semaOrderRow.holds Try.pinned (OpenSpec.ofChange semaOrderWrong)

/-- 'signalboxlaw11.SemaNothing': WHATEVER THE INPUT: true; the input reads as it did. -/
def semaNothingSpec : ChangeSpec := { name := "semaNothing", fn := fun _ => fun
  | [d1, d2] => { results := [.lit (.bool true)], args := [d1, d2] }
  | _ => none }
def semaNothingRow : OpenClaim := { program := "ytifbhohifhnkiaa", sum := "4f1e78158356b55ddb05b5ff5fa89b9ec4f040c09f457bcb0bb57fd151f9aa6e", func := "signalbox/signalboxlaw11.SemaNothing", spec := "semaNothing", inPlace := ["sync/atomic.StoreInt64", "sync/atomic.LoadInt64", "sync/atomic.AddInt64"], apart := false }
def SemaNothingSaid : Prop := semaNothingRow.holds Try.pinned (OpenSpec.ofChange semaNothingSpec)

/-- ITS FALSE NEIGHBOUR: 'it returns false'. Refute it at one input. -/
def semaNothingWrong : ChangeSpec := { name := "semaNothing", fn := fun _ => fun
  | [d1, d2] => { results := [.lit (.bool false)], args := [d1, d2] }
  | _ => none }
def SemaNothingWrongFalsely : Prop := semaNothingRow.holds Try.pinned (OpenSpec.ofChange semaNothingWrong)

/-- 'signalboxlaw12.RegionPlays': WHATEVER THE INPUT: true; the input reads as it did. -/
def regionPlaysSpec : ChangeSpec := { name := "regionPlays", fn := fun _ => fun
  | [d] => { results := [.lit (.bool true)], args := [d] }
  | _ => none }
def regionPlaysRow : OpenClaim := { program := "ytifbhohifhnkiaa", sum := "4f1e78158356b55ddb05b5ff5fa89b9ec4f040c09f457bcb0bb57fd151f9aa6e", func := "signalbox/signalboxlaw12.RegionPlays", spec := "regionPlays", apart := false }
def RegionPlaysSaid : Prop := regionPlaysRow.holds Try.pinned (OpenSpec.ofChange regionPlaysSpec)

/-- ITS FALSE NEIGHBOUR: 'it returns false'. Refute it at one input. -/
def regionPlaysWrong : ChangeSpec := { name := "regionPlays", fn := fun _ => fun
  | [d] => { results := [.lit (.bool false)], args := [d] }
  | _ => none }
def RegionPlaysWrongFalsely : Prop := regionPlaysRow.holds Try.pinned (OpenSpec.ofChange regionPlaysWrong)

/-- 'signalboxlaw12.RegionOne': WHATEVER THE INPUT: true; the input reads as it did. -/
def regionOneSpec : ChangeSpec := { name := "regionOne", fn := fun _ => fun
  | [d] => { results := [.lit (.bool true)], args := [d] }
  | _ => none }
def regionOneRow : OpenClaim := { program := "ytifbhohifhnkiaa", sum := "4f1e78158356b55ddb05b5ff5fa89b9ec4f040c09f457bcb0bb57fd151f9aa6e", func := "signalbox/signalboxlaw12.RegionOne", spec := "regionOne", apart := false }
def RegionOneSaid : Prop := regionOneRow.holds Try.pinned (OpenSpec.ofChange regionOneSpec)

/-- ITS FALSE NEIGHBOUR: 'it returns false'. Refute it at one input. -/
def regionOneWrong : ChangeSpec := { name := "regionOne", fn := fun _ => fun
  | [d] => { results := [.lit (.bool false)], args := [d] }
  | _ => none }
def RegionOneWrongFalsely : Prop := regionOneRow.holds Try.pinned (OpenSpec.ofChange regionOneWrong)

/-- 'signalboxlaw12.RegionAgain': WHATEVER THE INPUT: true; the input reads as it did. -/
def regionAgainSpec : ChangeSpec := { name := "regionAgain", fn := fun _ => fun
  | [d1, d2] => { results := [.lit (.bool true)], args := [d1, d2] }
  | _ => none }
def regionAgainRow : OpenClaim := { program := "ytifbhohifhnkiaa", sum := "4f1e78158356b55ddb05b5ff5fa89b9ec4f040c09f457bcb0bb57fd151f9aa6e", func := "signalbox/signalboxlaw12.RegionAgain", spec := "regionAgain", apart := false }
def RegionAgainSaid : Prop := regionAgainRow.holds Try.pinned (OpenSpec.ofChange regionAgainSpec)

/-- ITS FALSE NEIGHBOUR: 'it returns false'. Refute it at one input. -/
def regionAgainWrong : ChangeSpec := { name := "regionAgain", fn := fun _ => fun
  | [d1, d2] => { results := [.lit (.bool false)], args := [d1, d2] }
  | _ => none }
def RegionAgainWrongFalsely : Prop := regionAgainRow.holds Try.pinned (OpenSpec.ofChange regionAgainWrong)

/-- 'signalboxlaw12.RegionNothing': WHATEVER THE INPUT: true; the input reads as it did. -/
def regionNothingSpec : ChangeSpec := { name := "regionNothing", fn := fun _ => fun
  | [d1, d2] => { results := [.lit (.bool true)], args := [d1, d2] }
  | _ => none }
def regionNothingRow : OpenClaim := { program := "ytifbhohifhnkiaa", sum := "4f1e78158356b55ddb05b5ff5fa89b9ec4f040c09f457bcb0bb57fd151f9aa6e", func := "signalbox/signalboxlaw12.RegionNothing", spec := "regionNothing", apart := false }
def RegionNothingSaid : Prop := regionNothingRow.holds Try.pinned (OpenSpec.ofChange regionNothingSpec)

/-- ITS FALSE NEIGHBOUR: 'it returns false'. Refute it at one input. -/
def regionNothingWrong : ChangeSpec := { name := "regionNothing", fn := fun _ => fun
  | [d1, d2] => { results := [.lit (.bool false)], args := [d1, d2] }
  | _ => none }
def RegionNothingWrongFalsely : Prop := regionNothingRow.holds Try.pinned (OpenSpec.ofChange regionNothingWrong)

/- THE SECOND FORM. 'bulk': how many values and letters a reading holds, each counted each time it is reached (what is shared counts as often as it is met; a slice's spare places count too). A statement '..UptoSaid' is the law's where the arguments, and the package variables that the reading takes, are together of bulk at most 1048576: NARROWER than '..Said'. Prove '..Said' where nothing that the law and all that it calls make is longer than what came in: it says more and counts as full. Else prove '..UptoSaid'. A law counts once. -/
mutual
def uptoBulk {H : Type} : DataW H → Nat
  | .lit (.string bytes) => bytes.length + 1
  | .lit _ => 1
  | .nil => 1
  | .ptr d => uptoBulk d + 1
  | .slice elems spare => uptoBulkAll elems + uptoBulkAll spare + 1
  | .agg parts => uptoBulkAll parts + 1
  | .iface _ d => uptoBulk d + 1
  | .map entries => uptoBulkEntries entries + 1
  | .held _ => 1
def uptoBulkAll {H : Type} : List (DataW H) → Nat
  | [] => 0
  | d :: r => uptoBulk d + uptoBulkAll r
def uptoBulkEntries {H : Type} : List (Lit × DataW H) → Nat
  | [] => 0
  | x :: r => uptoBulkEntry x + uptoBulkEntries r
def uptoBulkEntry {H : Type} : Lit × DataW H → Nat
  | (.string bytes, d) => bytes.length + uptoBulk d + 1
  | (_, d) => uptoBulk d + 1
 end
def uptoSmall : (H : Type) → List (DataW H) → Bool := fun _ ds => decide (uptoBulkAll ds ≤ 1048576)
def OpenSpec.upto (s : _root_.Go.ChangeSpec) : _root_.Go.OpenSpec := { _root_.Go.OpenSpec.ofChange s with cond := some uptoSmall }

/-- 'signalboxlaw2.StorePlays', WHERE WHAT IT READS IS OF BULK AT MOST 1048576: true; the input reads as it did. -/
def storePlaysUptoRow : OpenClaim := { program := "ytifbhohifhnkiaa", sum := "4f1e78158356b55ddb05b5ff5fa89b9ec4f040c09f457bcb0bb57fd151f9aa6e", func := "signalbox/signalboxlaw2.StorePlays", spec := "storePlays", apart := false, narrowed := true }
def StorePlaysUptoSaid : Prop := storePlaysUptoRow.holds Try.pinned (OpenSpec.upto storePlaysSpec)

/-- 'signalboxlaw2.StoreLast', WHERE WHAT IT READS IS OF BULK AT MOST 1048576: true; the input reads as it did. -/
def storeLastUptoRow : OpenClaim := { program := "ytifbhohifhnkiaa", sum := "4f1e78158356b55ddb05b5ff5fa89b9ec4f040c09f457bcb0bb57fd151f9aa6e", func := "signalbox/signalboxlaw2.StoreLast", spec := "storeLast", apart := false, narrowed := true }
def StoreLastUptoSaid : Prop := storeLastUptoRow.holds Try.pinned (OpenSpec.upto storeLastSpec)

/-- 'signalboxlaw2.StoreClears', WHERE WHAT IT READS IS OF BULK AT MOST 1048576: true; the input reads as it did. -/
def storeClearsUptoRow : OpenClaim := { program := "ytifbhohifhnkiaa", sum := "4f1e78158356b55ddb05b5ff5fa89b9ec4f040c09f457bcb0bb57fd151f9aa6e", func := "signalbox/signalboxlaw2.StoreClears", spec := "storeClears", apart := false, narrowed := true }
def StoreClearsUptoSaid : Prop := storeClearsUptoRow.holds Try.pinned (OpenSpec.upto storeClearsSpec)

/-- 'signalboxlaw2.StoreNothing', WHERE WHAT IT READS IS OF BULK AT MOST 1048576: true; the input reads as it did. -/
def storeNothingUptoRow : OpenClaim := { program := "ytifbhohifhnkiaa", sum := "4f1e78158356b55ddb05b5ff5fa89b9ec4f040c09f457bcb0bb57fd151f9aa6e", func := "signalbox/signalboxlaw2.StoreNothing", spec := "storeNothing", apart := false, narrowed := true }
def StoreNothingUptoSaid : Prop := storeNothingUptoRow.holds Try.pinned (OpenSpec.upto storeNothingSpec)

/-- 'signalboxlaw11.SemaPlays', WHERE WHAT IT READS IS OF BULK AT MOST 1048576: true; the input reads as it did. -/
def semaPlaysUptoRow : OpenClaim := { program := "ytifbhohifhnkiaa", sum := "4f1e78158356b55ddb05b5ff5fa89b9ec4f040c09f457bcb0bb57fd151f9aa6e", func := "signalbox/signalboxlaw11.SemaPlays", spec := "semaPlays", inPlace := ["sync/atomic.StoreInt64", "sync/atomic.LoadInt64", "sync/atomic.AddInt64"], apart := false, narrowed := true }
def SemaPlaysUptoSaid : Prop := semaPlaysUptoRow.holds Try.pinned (OpenSpec.upto semaPlaysSpec)

/-- 'signalboxlaw11.SemaCounts', WHERE WHAT IT READS IS OF BULK AT MOST 1048576: true; the input reads as it did. -/
def semaCountsUptoRow : OpenClaim := { program := "ytifbhohifhnkiaa", sum := "4f1e78158356b55ddb05b5ff5fa89b9ec4f040c09f457bcb0bb57fd151f9aa6e", func := "signalbox/signalboxlaw11.SemaCounts", spec := "semaCounts", inPlace := ["sync/atomic.StoreInt64", "sync/atomic.LoadInt64", "sync/atomic.AddInt64"], apart := false, narrowed := true }
def SemaCountsUptoSaid : Prop := semaCountsUptoRow.holds Try.pinned (OpenSpec.upto semaCountsSpec)

/-- 'signalboxlaw11.SemaOrder', WHERE WHAT IT READS IS OF BULK AT MOST 1048576: true; the input reads as it did. -/
def semaOrderUptoRow : OpenClaim := { program := "ytifbhohifhnkiaa", sum := "4f1e78158356b55ddb05b5ff5fa89b9ec4f040c09f457bcb0bb57fd151f9aa6e", func := "signalbox/signalboxlaw11.SemaOrder", spec := "semaOrder", inPlace := ["sync/atomic.StoreInt64", "sync/atomic.LoadInt64", "sync/atomic.AddInt64"], apart := false, narrowed := true }
def SemaOrderUptoSaid : Prop := semaOrderUptoRow.holds Try.pinned (OpenSpec.upto semaOrderSpec)

/-- 'signalboxlaw11.SemaNothing', WHERE WHAT IT READS IS OF BULK AT MOST 1048576: true; the input reads as it did. -/
def semaNothingUptoRow : OpenClaim := { program := "ytifbhohifhnkiaa", sum := "4f1e78158356b55ddb05b5ff5fa89b9ec4f040c09f457bcb0bb57fd151f9aa6e", func := "signalbox/signalboxlaw11.SemaNothing", spec := "semaNothing", inPlace := ["sync/atomic.StoreInt64", "sync/atomic.LoadInt64", "sync/atomic.AddInt64"], apart := false, narrowed := true }
def SemaNothingUptoSaid : Prop := semaNothingUptoRow.holds Try.pinned (OpenSpec.upto semaNothingSpec)

/-- 'signalboxlaw12.RegionPlays', WHERE WHAT IT READS IS OF BULK AT MOST 1048576: true; the input reads as it did. -/
def regionPlaysUptoRow : OpenClaim := { program := "ytifbhohifhnkiaa", sum := "4f1e78158356b55ddb05b5ff5fa89b9ec4f040c09f457bcb0bb57fd151f9aa6e", func := "signalbox/signalboxlaw12.RegionPlays", spec := "regionPlays", apart := false, narrowed := true }
def RegionPlaysUptoSaid : Prop := regionPlaysUptoRow.holds Try.pinned (OpenSpec.upto regionPlaysSpec)

/-- 'signalboxlaw12.RegionOne', WHERE WHAT IT READS IS OF BULK AT MOST 1048576: true; the input reads as it did. -/
def regionOneUptoRow : OpenClaim := { program := "ytifbhohifhnkiaa", sum := "4f1e78158356b55ddb05b5ff5fa89b9ec4f040c09f457bcb0bb57fd151f9aa6e", func := "signalbox/signalboxlaw12.RegionOne", spec := "regionOne", apart := false, narrowed := true }
def RegionOneUptoSaid : Prop := regionOneUptoRow.holds Try.pinned (OpenSpec.upto regionOneSpec)

/-- 'signalboxlaw12.RegionAgain', WHERE WHAT IT READS IS OF BULK AT MOST 1048576: true; the input reads as it did. -/
def regionAgainUptoRow : OpenClaim := { program := "ytifbhohifhnkiaa", sum := "4f1e78158356b55ddb05b5ff5fa89b9ec4f040c09f457bcb0bb57fd151f9aa6e", func := "signalbox/signalboxlaw12.RegionAgain", spec := "regionAgain", apart := false, narrowed := true }
def RegionAgainUptoSaid : Prop := regionAgainUptoRow.holds Try.pinned (OpenSpec.upto regionAgainSpec)

/-- 'signalboxlaw12.RegionNothing', WHERE WHAT IT READS IS OF BULK AT MOST 1048576: true; the input reads as it did. -/
def regionNothingUptoRow : OpenClaim := { program := "ytifbhohifhnkiaa", sum := "4f1e78158356b55ddb05b5ff5fa89b9ec4f040c09f457bcb0bb57fd151f9aa6e", func := "signalbox/signalboxlaw12.RegionNothing", spec := "regionNothing", apart := false, narrowed := true }
def RegionNothingUptoSaid : Prop := regionNothingUptoRow.holds Try.pinned (OpenSpec.upto regionNothingSpec)

end Rows
end Go.Proofs.Ytifbhohifhnkiaa
