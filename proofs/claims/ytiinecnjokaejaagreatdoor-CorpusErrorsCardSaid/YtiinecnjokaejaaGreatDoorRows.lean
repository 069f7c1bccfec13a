/-
  NARROWER THAN 'FOR EVERY INPUT', by the rows' own cells (each row's printed sentence says how): CorpusErrors: laid.
  DERIVED. THE GIVEN ROWS OF THIS SEAT. 1 by the template 'for every input the law returns true; each argument reads behind the call as it read before'; 0 by the template 'total and deterministic' (their statements: YtiinecnjokaejaaGreatDoorTotals.lean).
  GIVEN WITH THE SEED: the statements are not yours to turn. If you find one false, say at which input.
  Laid BY PROGRAM, IN A SANDBOX (cutbox-rows.mjs): the forced cells as the released guide's own fill.sh prints them over the translation dce7e2e784f3995b… (all of the seat's roots in one cut). By AI agents, Wed Nov 11 2026. No macro, syntax, notation, axiom, sorry.
-/
import Derived.Test.YtiinecnjokaejaaGreatDoorChecked
import GoSem.Claim
import GoSem.ClaimJoined
import GoSem.ClaimMapViews
import Derived.JoinedTies
import Derived.KernelRfl
namespace Go.Proofs.YtiinecnjokaejaaGreatDoor
/- THE CELL 'sum', in the pinned program and in every row, IS THE sha256 OF THE DUMP (.gsa) THAT YtiinecnjokaejaaGreatDoorProg.lean LOADS. Nothing in Lean hashes anything: it is a label: what it is worth is what the hold of that sum in a sandbox is worth. -/
noncomputable def Tryz.pinned : Pinned := { name := "ytiinecnjokaejaagreatdoor", sum := "dce7e2e784f3995b5d9f803b8363d3e75af38a17c27f15f4ed143f051e1fbaa9", checked := Tryz.checked }
namespace Rows
def none {H : Type} : Left H := { results := [], args := [] }

/- WHAT THE LISTED PACKAGE-LEVEL VARIABLES READ AS WHEN THE CALL BEGINS. Each datum BY PROGRAM (the guide's laid-datum.mjs) off the statement by which the dump's own 'gosem.cut.vars' lays the variable. In a bare row this is a premise. The card (YtiinecnjokaejaaGreatDoorCards.lean) ties it to the program's text. -/
def laid_simproof_verdict_checkers {H : Type} : DataW H := .iface "func table" (.map [(.int .i64 2, .iface "func" (.lit (.string [115, 105, 109, 112, 114, 111, 111, 102, 47, 108, 105, 110, 101, 97, 114, 46, 67, 104, 101, 99, 107]))), (.int .i64 3, .iface "func" (.lit (.string [115, 105, 109, 112, 114, 111, 111, 102, 47, 118, 101, 114, 100, 105, 99, 116, 46, 99, 104, 101, 99, 107, 101, 114, 115, 36, 49]))), (.int .i64 4, .iface "func" (.lit (.string [115, 105, 109, 112, 114, 111, 111, 102, 47, 118, 101, 114, 100, 105, 99, 116, 46, 99, 104, 101, 99, 107, 101, 114, 115, 36, 50]))), (.int .i64 5, .iface "func" (.lit (.string [115, 105, 109, 112, 114, 111, 111, 102, 47, 99, 97, 117, 115, 97, 108, 46, 67, 104, 101, 99, 107]))), (.int .i64 6, .iface "func" (.lit (.string [115, 105, 109, 112, 114, 111, 111, 102, 47, 99, 97, 117, 115, 97, 108, 46, 83, 101, 115, 115, 105, 111, 110]))), (.int .i64 7, .iface "func" (.lit (.string [115, 105, 109, 112, 114, 111, 111, 102, 47, 111, 110, 99, 101, 46, 67, 104, 101, 99, 107])))])

/-- 'simprooflaw31.CorpusErrors': WHATEVER THE INPUT: true; the input reads as it did. -/
def corpusErrorsSpec : ChangeSpec := { name := "corpusErrors", fn := fun _ => fun
  | [d1, d2, d3] => { results := [.lit (.bool true)], args := [d1, d2, d3] }
  | _ => none }
def corpusErrorsRow : OpenClaim := { program := "ytiinecnjokaejaagreatdoor", sum := "dce7e2e784f3995b5d9f803b8363d3e75af38a17c27f15f4ed143f051e1fbaa9", func := "simproof/simprooflaw31.CorpusErrors", spec := "corpusErrors", inPlace := ["slices.overlaps[int]", "slices.overlaps[simproof/api.Envelope]"], unfollowed := true, recurses := true, named := ["simproof/verdict.checkers"], plainKeys := false, apart := false, laid := [("simproof/verdict.checkers", laid_simproof_verdict_checkers)] }
def CorpusErrorsSaid : Prop := corpusErrorsRow.holds Tryz.pinned (OpenSpec.ofChange corpusErrorsSpec)

/-- ITS FALSE NEIGHBOUR: 'it returns false'. Refute it at one input. -/
def corpusErrorsWrong : ChangeSpec := { name := "corpusErrors", fn := fun _ => fun
  | [d1, d2, d3] => { results := [.lit (.bool false)], args := [d1, d2, d3] }
  | _ => none }
def CorpusErrorsWrongFalsely : Prop := corpusErrorsRow.holds Tryz.pinned (OpenSpec.ofChange corpusErrorsWrong)

/- THE SECOND FORM. 'bulk': how many values and letters a reading holds, each counted each time it is reached (what is shared counts as often as it is met; a slice's spare places count too). A statement '..UptoSaid' is the law's where the arguments, and the package variables that the reading takes, are together of bulk at most 1048576: NARROWER than '..Said'. Prove '..Said' where nothing that the law and all that it calls make is longer than what came in: it says more and counts as full. Else prove '..UptoSaid'. A law counts once. -/
mutual
def uptoBulk {H : Type} : DataW H → Nat
  | .lit (.string bytes) => bytes.length + 1
  | .lit _ => 1
  | .nil => 1
  | .ptr d => uptoBulk d + 1
  | .slice elems spare => uptoBulkAll elems + uptoBulkAll spare + 1
  | .agg parts => uptoBulkAll parts + 1
  | .iface _ d => uptoBulk d + 1
  | .map entries => uptoBulkEntries entries + 1
  | .held _ => 1
def uptoBulkAll {H : Type} : List (DataW H) → Nat
  | [] => 0
  | d :: r => uptoBulk d + uptoBulkAll r
def uptoBulkEntries {H : Type} : List (Lit × DataW H) → Nat
  | [] => 0
  | x :: r => uptoBulkEntry x + uptoBulkEntries r
def uptoBulkEntry {H : Type} : Lit × DataW H → Nat
  | (.string bytes, d) => bytes.length + uptoBulk d + 1
  | (_, d) => uptoBulk d + 1
 end
def uptoSmall : (H : Type) → List (DataW H) → Bool := fun _ ds => decide (uptoBulkAll ds ≤ 1048576)
def OpenSpec.upto (s : _root_.Go.ChangeSpec) : _root_.Go.OpenSpec := { _root_.Go.OpenSpec.ofChange s with cond := some uptoSmall }

/-- 'simprooflaw31.CorpusErrors', WHERE WHAT IT READS IS OF BULK AT MOST 1048576: true; the input reads as it did. -/
def corpusErrorsUptoRow : OpenClaim := { program := "ytiinecnjokaejaagreatdoor", sum := "dce7e2e784f3995b5d9f803b8363d3e75af38a17c27f15f4ed143f051e1fbaa9", func := "simproof/simprooflaw31.CorpusErrors", spec := "corpusErrors", inPlace := ["slices.overlaps[int]", "slices.overlaps[simproof/api.Envelope]"], unfollowed := true, recurses := true, named := ["simproof/verdict.checkers"], plainKeys := false, apart := false, laid := [("simproof/verdict.checkers", laid_simproof_verdict_checkers)], narrowed := true }
def CorpusErrorsUptoSaid : Prop := corpusErrorsUptoRow.holds Tryz.pinned (OpenSpec.upto corpusErrorsSpec)

end Rows
end Go.Proofs.YtiinecnjokaejaaGreatDoor
