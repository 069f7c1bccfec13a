/-
  DERIVED. GIVEN WITH THE SEED: THE CARDS: each row of YtofjnhdgkhfgnaaDoorRows.lean that lists a variable, with what it lists TIED to the program's text (the seventh form; the later family's looks); each row that meets fmt, with fmt's text TOLD by the authors' own Lean function (tested against real Go, not proved from fmt's source: count such statements apart). THE CARD IS WHAT COUNTS. Prove the row's statement (the work); the ties are given (YtofjnhdgkhfgnaaDoorTie.lean); close each card by the builder's one call (the guide's Derived/Test/ToyasCard.lean, 'card_holds'). Laid BY PROGRAM, IN A SANDBOX (cutbox-door.mjs). By AI agents, Wed Nov 11 2026. No macro, syntax, notation, axiom, sorry.
-/
import Derived.Test.YtofjnhdgkhfgnaaDoorRows
import GoSem.ClaimSeven
namespace Go.Proofs.YtofjnhdgkhfgnaaDoor
namespace Rows

/-- THE TIED CARD OF 'simprooflaw26.VerdictSame'. -/
def verdictSameCard : Claim7 := { stood := { row := verdictSameRow, standIns := [], harness := (true, "ad7bbf0081988b7a1bf5599fc35bc77dd188d4fe24eeda20034fc194c4fd9920"), looks := true }, kinds := [], alts := [], laidByText := true, laidKinds := [.funcs], laidTests := true, laidLooks := .later }
def VerdictSameCardSaid : Prop := Claim7.holds Tryd.pinned (.plain (OpenSpec.ofChange verdictSameSpec)) verdictSameCard

/-- THE SECOND FORM's CARD OF 'simprooflaw26.VerdictSame'. -/
def verdictSameUptoCard : Claim7 := { stood := { row := verdictSameUptoRow, standIns := [], harness := (true, "ad7bbf0081988b7a1bf5599fc35bc77dd188d4fe24eeda20034fc194c4fd9920"), looks := true }, kinds := [], alts := [], laidByText := true, laidKinds := [.funcs], laidTests := true, laidLooks := .later }
def VerdictSameUptoCardSaid : Prop := Claim7.holds Tryd.pinned (.plain (OpenSpec.upto verdictSameSpec)) verdictSameUptoCard
end Rows
end Go.Proofs.YtofjnhdgkhfgnaaDoor
