/-
  DERIVED. GIVEN WITH THE SEED: THE CARDS: each row of YtiinecnjokaejaaGreatDoorRows.lean that lists a variable, with what it lists TIED to the program's text (the seventh form; the later family's looks); each row that meets fmt, with fmt's text TOLD by the authors' own Lean function (tested against real Go, not proved from fmt's source: count such statements apart). THE CARD IS WHAT COUNTS. Prove the row's statement (the work); the ties are given (YtiinecnjokaejaaGreatDoorTie.lean); close each card by the builder's one call (the guide's Derived/Test/ToyasCard.lean, 'card_holds'). Laid BY PROGRAM, IN A SANDBOX (cutbox-door.mjs). By AI agents, Wed Nov 11 2026. No macro, syntax, notation, axiom, sorry.
-/
import Derived.Test.YtiinecnjokaejaaGreatDoorRows
import GoSem.ClaimSeven
namespace Go.Proofs.YtiinecnjokaejaaGreatDoor
namespace Rows

/-- THE TIED CARD OF 'simprooflaw31.CorpusErrors'. -/
def corpusErrorsCard : Claim7 := { stood := { row := corpusErrorsRow, standIns := [], harness := (true, "1866c148559bd7a486d939dff6154c3f5a77b947024b3418541318bd8e73355d"), looks := true }, kinds := [], alts := [], laidByText := true, laidKinds := [.funcs], laidTests := true, laidLooks := .later }
def CorpusErrorsCardSaid : Prop := Claim7.holds Tryz.pinned (.plain (OpenSpec.ofChange corpusErrorsSpec)) corpusErrorsCard

/-- THE SECOND FORM's CARD OF 'simprooflaw31.CorpusErrors'. -/
def corpusErrorsUptoCard : Claim7 := { stood := { row := corpusErrorsUptoRow, standIns := [], harness := (true, "1866c148559bd7a486d939dff6154c3f5a77b947024b3418541318bd8e73355d"), looks := true }, kinds := [], alts := [], laidByText := true, laidKinds := [.funcs], laidTests := true, laidLooks := .later }
def CorpusErrorsUptoCardSaid : Prop := Claim7.holds Tryz.pinned (.plain (OpenSpec.upto corpusErrorsSpec)) corpusErrorsUptoCard
end Rows
end Go.Proofs.YtiinecnjokaejaaGreatDoor
