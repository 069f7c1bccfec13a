/-
  NARROWER THAN 'FOR EVERY INPUT', by the rows' own cells (each row's printed sentence says how): ShrinkErrors: laid.
  DERIVED. THE GIVEN ROWS OF THIS SEAT. 1 by the template 'for every input the law returns true; each argument reads behind the call as it read before'; 0 by the template 'total and deterministic' (their statements: YtghcggoodgfaoaaGreatDoorTotals.lean).
  GIVEN WITH THE SEED: the statements are not yours to turn. If you find one false, say at which input.
  Laid BY PROGRAM, IN A SANDBOX (cutbox-rows.mjs): the forced cells as the released guide's own fill.sh prints them over the translation f8bddb9bd7bff453… (all of the seat's roots in one cut). By AI agents, Wed Nov 11 2026. No macro, syntax, notation, axiom, sorry.
-/
import Derived.Test.YtghcggoodgfaoaaGreatDoorChecked
import GoSem.Claim
import GoSem.ClaimJoined
import GoSem.ClaimMapViews
import Derived.JoinedTies
import Derived.KernelRfl
namespace Go.Proofs.YtghcggoodgfaoaaGreatDoor
/- THE CELL 'sum', in the pinned program and in every row, IS THE sha256 OF THE DUMP (.gsa) THAT YtghcggoodgfaoaaGreatDoorProg.lean LOADS. Nothing in Lean hashes anything: it is a label: what it is worth is what the hold of that sum in a sandbox is worth. -/
noncomputable def Tryz.pinned : Pinned := { name := "ytghcggoodgfaoaagreatdoor", sum := "f8bddb9bd7bff453aa47d0ffdb7709b66dcc6b73083f6acaf03ad17a63430777", checked := Tryz.checked }
namespace Rows
def none {H : Type} : Left H := { results := [], args := [] }

/- WHAT THE LISTED PACKAGE-LEVEL VARIABLES READ AS WHEN THE CALL BEGINS. Each datum BY PROGRAM (the guide's laid-datum.mjs) off the statement by which the dump's own 'gosem.cut.vars' lays the variable. In a bare row this is a premise. The card (YtghcggoodgfaoaaGreatDoorCards.lean) ties it to the program's text. -/
def laid_simproof_verdict_checkers {H : Type} : DataW H := .iface "func table" (.map [(.int .i64 2, .iface "func" (.lit (.string [115, 105, 109, 112, 114, 111, 111, 102, 47, 108, 105, 110, 101, 97, 114, 46, 67, 104, 101, 99, 107]))), (.int .i64 3, .iface "func" (.lit (.string [115, 105, 109, 112, 114, 111, 111, 102, 47, 118, 101, 114, 100, 105, 99, 116, 46, 99, 104, 101, 99, 107, 101, 114, 115, 36, 49]))), (.int .i64 4, .iface "func" (.lit (.string [115, 105, 109, 112, 114, 111, 111, 102, 47, 118, 101, 114, 100, 105, 99, 116, 46, 99, 104, 101, 99, 107, 101, 114, 115, 36, 50]))), (.int .i64 5, .iface "func" (.lit (.string [115, 105, 109, 112, 114, 111, 111, 102, 47, 99, 97, 117, 115, 97, 108, 46, 67, 104, 101, 99, 107]))), (.int .i64 6, .iface "func" (.lit (.string [115, 105, 109, 112, 114, 111, 111, 102, 47, 99, 97, 117, 115, 97, 108, 46, 83, 101, 115, 115, 105, 111, 110]))), (.int .i64 7, .iface "func" (.lit (.string [115, 105, 109, 112, 114, 111, 111, 102, 47, 111, 110, 99, 101, 46, 67, 104, 101, 99, 107])))])

/-- 'simprooflaw28.ShrinkErrors': WHATEVER THE INPUT: true; the input reads as it did. -/
def shrinkErrorsSpec : ChangeSpec := { name := "shrinkErrors", fn := fun _ => fun
  | [d1, d2, d3, d4] => { results := [.lit (.bool true)], args := [d1, d2, d3, d4] }
  | _ => none }
def shrinkErrorsRow : OpenClaim := { program := "ytghcggoodgfaoaagreatdoor", sum := "f8bddb9bd7bff453aa47d0ffdb7709b66dcc6b73083f6acaf03ad17a63430777", func := "simproof/simprooflaw28.ShrinkErrors", spec := "shrinkErrors", inPlace := ["slices.overlaps[int]", "slices.overlaps[simproof/api.Envelope]"], unfollowed := true, recurses := true, named := ["simproof/verdict.checkers"], plainKeys := false, apart := false, laid := [("simproof/verdict.checkers", laid_simproof_verdict_checkers)] }
def ShrinkErrorsSaid : Prop := shrinkErrorsRow.holds Tryz.pinned (OpenSpec.ofChange shrinkErrorsSpec)

/-- ITS FALSE NEIGHBOUR: 'it returns false'. Refute it at one input. -/
def shrinkErrorsWrong : ChangeSpec := { name := "shrinkErrors", fn := fun _ => fun
  | [d1, d2, d3, d4] => { results := [.lit (.bool false)], args := [d1, d2, d3, d4] }
  | _ => none }
def ShrinkErrorsWrongFalsely : Prop := shrinkErrorsRow.holds Tryz.pinned (OpenSpec.ofChange shrinkErrorsWrong)

/- THE SECOND FORM. 'bulk': how many values and letters a reading holds, each counted each time it is reached (what is shared counts as often as it is met; a slice's spare places count too). A statement '..UptoSaid' is the law's where the arguments, and the package variables that the reading takes, are together of bulk at most 1048576: NARROWER than '..Said'. Prove '..Said' where nothing that the law and all that it calls make is longer than what came in: it says more and counts as full. Else prove '..UptoSaid'. A law counts once. -/
mutual
def uptoBulk {H : Type} : DataW H → Nat
  | .lit (.string bytes) => bytes.length + 1
  | .lit _ => 1
  | .nil => 1
  | .ptr d => uptoBulk d + 1
  | .slice elems spare => uptoBulkAll elems + uptoBulkAll spare + 1
  | .agg parts => uptoBulkAll parts + 1
  | .iface _ d => uptoBulk d + 1
  | .map entries => uptoBulkEntries entries + 1
  | .held _ => 1
def uptoBulkAll {H : Type} : List (DataW H) → Nat
  | [] => 0
  | d :: r => uptoBulk d + uptoBulkAll r
def uptoBulkEntries {H : Type} : List (Lit × DataW H) → Nat
  | [] => 0
  | x :: r => uptoBulkEntry x + uptoBulkEntries r
def uptoBulkEntry {H : Type} : Lit × DataW H → Nat
  | (.string bytes, d) => bytes.length + uptoBulk d + 1
  | (_, d) => uptoBulk d + 1
 end
def uptoSmall : (H : Type) → List (DataW H) → Bool := fun _ ds => decide (uptoBulkAll ds ≤ 1048576)
def OpenSpec.upto (s : _root_.Go.ChangeSpec) : _root_.Go.OpenSpec := { _root_.Go.OpenSpec.ofChange s with cond := some uptoSmall }

/-- 'simprooflaw28.ShrinkErrors', WHERE WHAT IT READS IS OF BULK AT MOST 1048576: true; the input reads as it did. -/
def shrinkErrorsUptoRow : OpenClaim := { program := "ytghcggoodgfaoaagreatdoor", sum := "f8bddb9bd7bff453aa47d0ffdb7709b66dcc6b73083f6acaf03ad17a63430777", func := "simproof/simprooflaw28.ShrinkErrors", spec := "shrinkErrors", inPlace := ["slices.overlaps[int]", "slices.overlaps[simproof/api.Envelope]"], unfollowed := true, recurses := true, named := ["simproof/verdict.checkers"], plainKeys := false, apart := false, laid := [("simproof/verdict.checkers", laid_simproof_verdict_checkers)], narrowed := true }
def ShrinkErrorsUptoSaid : Prop := shrinkErrorsUptoRow.holds Tryz.pinned (OpenSpec.upto shrinkErrorsSpec)

end Rows
end Go.Proofs.YtghcggoodgfaoaaGreatDoor
