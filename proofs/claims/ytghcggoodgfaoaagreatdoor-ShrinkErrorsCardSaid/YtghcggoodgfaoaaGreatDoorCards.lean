/-
  DERIVED. GIVEN WITH THE SEED: THE CARDS: each row of YtghcggoodgfaoaaGreatDoorRows.lean that lists a variable, with what it lists TIED to the program's text (the seventh form; the later family's looks); each row that meets fmt, with fmt's text TOLD by the authors' own Lean function (tested against real Go, not proved from fmt's source: count such statements apart). THE CARD IS WHAT COUNTS. Prove the row's statement (the work); the ties are given (YtghcggoodgfaoaaGreatDoorTie.lean); close each card by the builder's one call (the guide's Derived/Test/ToyasCard.lean, 'card_holds'). Laid BY PROGRAM, IN A SANDBOX (cutbox-door.mjs). By AI agents, Wed Nov 11 2026. No macro, syntax, notation, axiom, sorry.
-/
import Derived.Test.YtghcggoodgfaoaaGreatDoorRows
import GoSem.ClaimSeven
namespace Go.Proofs.YtghcggoodgfaoaaGreatDoor
namespace Rows

/-- THE TIED CARD OF 'simprooflaw28.ShrinkErrors'. -/
def shrinkErrorsCard : Claim7 := { stood := { row := shrinkErrorsRow, standIns := [], harness := (true, "2887db15459ca89ff30e0c9cccefc96955ae335cfbc54f6dc22c94568f637abb"), looks := true }, kinds := [], alts := [], laidByText := true, laidKinds := [.funcs], laidTests := true, laidLooks := .later }
def ShrinkErrorsCardSaid : Prop := Claim7.holds Tryz.pinned (.plain (OpenSpec.ofChange shrinkErrorsSpec)) shrinkErrorsCard

/-- THE SECOND FORM's CARD OF 'simprooflaw28.ShrinkErrors'. -/
def shrinkErrorsUptoCard : Claim7 := { stood := { row := shrinkErrorsUptoRow, standIns := [], harness := (true, "2887db15459ca89ff30e0c9cccefc96955ae335cfbc54f6dc22c94568f637abb"), looks := true }, kinds := [], alts := [], laidByText := true, laidKinds := [.funcs], laidTests := true, laidLooks := .later }
def ShrinkErrorsUptoCardSaid : Prop := Claim7.holds Tryz.pinned (.plain (OpenSpec.upto shrinkErrorsSpec)) shrinkErrorsUptoCard
end Rows
end Go.Proofs.YtghcggoodgfaoaaGreatDoor
