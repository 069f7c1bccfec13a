/-
  No cell of these rows narrows 'for every input' (looked for: loops, veiled, ifaces, maps, wideKeys, modest, calm, conditions, laid).
  DERIVED. THE GIVEN ROWS OF THIS SEAT. 4 by the template 'for every input the law returns true; each argument reads behind the call as it read before'; 0 by the template 'total and deterministic' (their statements: YteeohboemhegoaaTotals.lean).
  GIVEN WITH THE SEED: the statements are not yours to turn. If you find one false, say at which input.
  Laid BY PROGRAM, IN A SANDBOX (cutbox-rows.mjs): the forced cells as the released guide's own fill.sh prints them over the translation ca02d5c7134dab28… (all of the seat's roots in one cut). By AI agents, Wed Nov 11 2026. No macro, syntax, notation, axiom, sorry.
-/
import Derived.Test.YteeohboemhegoaaChecked
import GoSem.Claim
import GoSem.ClaimJoined
import GoSem.ClaimMapViews
import Derived.JoinedTies
import Derived.KernelRfl
namespace Go.Proofs.Yteeohboemhegoaa
/- THE CELL 'sum', in the pinned program and in every row, IS THE sha256 OF THE DUMP (.gsa) THAT YteeohboemhegoaaProg.lean LOADS. Nothing in Lean hashes anything: it is a label: what it is worth is what the hold of that sum in a sandbox is worth. -/
noncomputable def Try.pinned : Pinned := { name := "yteeohboemhegoaa", sum := "ca02d5c7134dab28dba417c1edd203f09ebbe6b3fc2604366dc82241f82de000", checked := Try.checked }
namespace Rows
def none {H : Type} : Left H := { results := [], args := [] }

/-- 'simprooflaw28.ShrinkList': WHATEVER THE INPUT: true; the input reads as it did. -/
def shrinkListSpec : ChangeSpec := { name := "shrinkList", fn := fun _ => fun
  | [d1, d2, d3, d4] => { results := [.lit (.bool true)], args := [d1, d2, d3, d4] }
  | _ => none }
def shrinkListRow : OpenClaim := { program := "yteeohboemhegoaa", sum := "ca02d5c7134dab28dba417c1edd203f09ebbe6b3fc2604366dc82241f82de000", func := "simproof/simprooflaw28.ShrinkList", spec := "shrinkList", unfollowed := true, recurses := true, apart := false }
def ShrinkListSaid : Prop := shrinkListRow.holds Try.pinned (OpenSpec.ofChange shrinkListSpec)

/-- ITS FALSE NEIGHBOUR: 'it returns false'. Refute it at one input. -/
def shrinkListWrong : ChangeSpec := { name := "shrinkList", fn := fun _ => fun
  | [d1, d2, d3, d4] => { results := [.lit (.bool false)], args := [d1, d2, d3, d4] }
  | _ => none }
def ShrinkListWrongFalsely : Prop := shrinkListRow.holds Try.pinned (OpenSpec.ofChange shrinkListWrong)

/-- 'simprooflaw28.ShrinkMonotone': WHATEVER THE INPUT: true; the input reads as it did. -/
def shrinkMonotoneSpec : ChangeSpec := { name := "shrinkMonotone", fn := fun _ => fun
  | [d1, d2, d3, d4] => { results := [.lit (.bool true)], args := [d1, d2, d3, d4] }
  | _ => none }
def shrinkMonotoneRow : OpenClaim := { program := "yteeohboemhegoaa", sum := "ca02d5c7134dab28dba417c1edd203f09ebbe6b3fc2604366dc82241f82de000", func := "simproof/simprooflaw28.ShrinkMonotone", spec := "shrinkMonotone", unfollowed := true, recurses := true, apart := false }
def ShrinkMonotoneSaid : Prop := shrinkMonotoneRow.holds Try.pinned (OpenSpec.ofChange shrinkMonotoneSpec)

/-- ITS FALSE NEIGHBOUR: 'it returns false'. Refute it at one input. -/
def shrinkMonotoneWrong : ChangeSpec := { name := "shrinkMonotone", fn := fun _ => fun
  | [d1, d2, d3, d4] => { results := [.lit (.bool false)], args := [d1, d2, d3, d4] }
  | _ => none }
def ShrinkMonotoneWrongFalsely : Prop := shrinkMonotoneRow.holds Try.pinned (OpenSpec.ofChange shrinkMonotoneWrong)

/-- 'simprooflaw28.ShrinkAgain': WHATEVER THE INPUT: true; the input reads as it did. -/
def shrinkAgainSpec : ChangeSpec := { name := "shrinkAgain", fn := fun _ => fun
  | [d1, d2, d3, d4] => { results := [.lit (.bool true)], args := [d1, d2, d3, d4] }
  | _ => none }
def shrinkAgainRow : OpenClaim := { program := "yteeohboemhegoaa", sum := "ca02d5c7134dab28dba417c1edd203f09ebbe6b3fc2604366dc82241f82de000", func := "simproof/simprooflaw28.ShrinkAgain", spec := "shrinkAgain", unfollowed := true, recurses := true, apart := false }
def ShrinkAgainSaid : Prop := shrinkAgainRow.holds Try.pinned (OpenSpec.ofChange shrinkAgainSpec)

/-- ITS FALSE NEIGHBOUR: 'it returns false'. Refute it at one input. -/
def shrinkAgainWrong : ChangeSpec := { name := "shrinkAgain", fn := fun _ => fun
  | [d1, d2, d3, d4] => { results := [.lit (.bool false)], args := [d1, d2, d3, d4] }
  | _ => none }
def ShrinkAgainWrongFalsely : Prop := shrinkAgainRow.holds Try.pinned (OpenSpec.ofChange shrinkAgainWrong)

/-- 'simprooflaw28.ShrinkStrings': WHATEVER THE INPUT: true; the input reads as it did. -/
def shrinkStringsSpec : ChangeSpec := { name := "shrinkStrings", fn := fun _ => fun
  | [d1, d2] => { results := [.lit (.bool true)], args := [d1, d2] }
  | _ => none }
def shrinkStringsRow : OpenClaim := { program := "yteeohboemhegoaa", sum := "ca02d5c7134dab28dba417c1edd203f09ebbe6b3fc2604366dc82241f82de000", func := "simproof/simprooflaw28.ShrinkStrings", spec := "shrinkStrings", unfollowed := true, recurses := true, apart := false }
def ShrinkStringsSaid : Prop := shrinkStringsRow.holds Try.pinned (OpenSpec.ofChange shrinkStringsSpec)

/-- ITS FALSE NEIGHBOUR: 'it returns false'. Refute it at one input. -/
def shrinkStringsWrong : ChangeSpec := { name := "shrinkStrings", fn := fun _ => fun
  | [d1, d2] => { results := [.lit (.bool false)], args := [d1, d2] }
  | _ => none }
def ShrinkStringsWrongFalsely : Prop := shrinkStringsRow.holds Try.pinned (OpenSpec.ofChange shrinkStringsWrong)

/- THE SECOND FORM. 'bulk': how many values and letters a reading holds, each counted each time it is reached (what is shared counts as often as it is met; a slice's spare places count too). A statement '..UptoSaid' is the law's where the arguments, and the package variables that the reading takes, are together of bulk at most 1048576: NARROWER than '..Said'. Prove '..Said' where nothing that the law and all that it calls make is longer than what came in: it says more and counts as full. Else prove '..UptoSaid'. A law counts once. -/
mutual
def uptoBulk {H : Type} : DataW H → Nat
  | .lit (.string bytes) => bytes.length + 1
  | .lit _ => 1
  | .nil => 1
  | .ptr d => uptoBulk d + 1
  | .slice elems spare => uptoBulkAll elems + uptoBulkAll spare + 1
  | .agg parts => uptoBulkAll parts + 1
  | .iface _ d => uptoBulk d + 1
  | .map entries => uptoBulkEntries entries + 1
  | .held _ => 1
def uptoBulkAll {H : Type} : List (DataW H) → Nat
  | [] => 0
  | d :: r => uptoBulk d + uptoBulkAll r
def uptoBulkEntries {H : Type} : List (Lit × DataW H) → Nat
  | [] => 0
  | x :: r => uptoBulkEntry x + uptoBulkEntries r
def uptoBulkEntry {H : Type} : Lit × DataW H → Nat
  | (.string bytes, d) => bytes.length + uptoBulk d + 1
  | (_, d) => uptoBulk d + 1
 end
def uptoSmall : (H : Type) → List (DataW H) → Bool := fun _ ds => decide (uptoBulkAll ds ≤ 1048576)
def OpenSpec.upto (s : _root_.Go.ChangeSpec) : _root_.Go.OpenSpec := { _root_.Go.OpenSpec.ofChange s with cond := some uptoSmall }

/-- 'simprooflaw28.ShrinkList', WHERE WHAT IT READS IS OF BULK AT MOST 1048576: true; the input reads as it did. -/
def shrinkListUptoRow : OpenClaim := { program := "yteeohboemhegoaa", sum := "ca02d5c7134dab28dba417c1edd203f09ebbe6b3fc2604366dc82241f82de000", func := "simproof/simprooflaw28.ShrinkList", spec := "shrinkList", unfollowed := true, recurses := true, apart := false, narrowed := true }
def ShrinkListUptoSaid : Prop := shrinkListUptoRow.holds Try.pinned (OpenSpec.upto shrinkListSpec)

/-- 'simprooflaw28.ShrinkMonotone', WHERE WHAT IT READS IS OF BULK AT MOST 1048576: true; the input reads as it did. -/
def shrinkMonotoneUptoRow : OpenClaim := { program := "yteeohboemhegoaa", sum := "ca02d5c7134dab28dba417c1edd203f09ebbe6b3fc2604366dc82241f82de000", func := "simproof/simprooflaw28.ShrinkMonotone", spec := "shrinkMonotone", unfollowed := true, recurses := true, apart := false, narrowed := true }
def ShrinkMonotoneUptoSaid : Prop := shrinkMonotoneUptoRow.holds Try.pinned (OpenSpec.upto shrinkMonotoneSpec)

/-- 'simprooflaw28.ShrinkAgain', WHERE WHAT IT READS IS OF BULK AT MOST 1048576: true; the input reads as it did. -/
def shrinkAgainUptoRow : OpenClaim := { program := "yteeohboemhegoaa", sum := "ca02d5c7134dab28dba417c1edd203f09ebbe6b3fc2604366dc82241f82de000", func := "simproof/simprooflaw28.ShrinkAgain", spec := "shrinkAgain", unfollowed := true, recurses := true, apart := false, narrowed := true }
def ShrinkAgainUptoSaid : Prop := shrinkAgainUptoRow.holds Try.pinned (OpenSpec.upto shrinkAgainSpec)

/-- 'simprooflaw28.ShrinkStrings', WHERE WHAT IT READS IS OF BULK AT MOST 1048576: true; the input reads as it did. -/
def shrinkStringsUptoRow : OpenClaim := { program := "yteeohboemhegoaa", sum := "ca02d5c7134dab28dba417c1edd203f09ebbe6b3fc2604366dc82241f82de000", func := "simproof/simprooflaw28.ShrinkStrings", spec := "shrinkStrings", unfollowed := true, recurses := true, apart := false, narrowed := true }
def ShrinkStringsUptoSaid : Prop := shrinkStringsUptoRow.holds Try.pinned (OpenSpec.upto shrinkStringsSpec)

end Rows
end Go.Proofs.Yteeohboemhegoaa
