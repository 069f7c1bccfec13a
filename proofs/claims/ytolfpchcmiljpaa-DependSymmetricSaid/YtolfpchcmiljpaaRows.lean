/-
  No cell of these rows narrows 'for every input' (looked for: loops, veiled, ifaces, maps, wideKeys, modest, calm, conditions, laid).
  DERIVED. THE GIVEN ROWS OF THIS SEAT. 7 by the template 'for every input the law returns true; each argument reads behind the call as it read before'; 0 by the template 'total and deterministic' (their statements: YtolfpchcmiljpaaTotals.lean).
  GIVEN WITH THE SEED: the statements are not yours to turn. If you find one false, say at which input.
  Laid BY PROGRAM, IN A SANDBOX (cutbox-rows.mjs): the forced cells as the released guide's own fill.sh prints them over the translation 6f9eb5e710a56ec3… (all of the seat's roots in one cut). By AI agents, Wed Nov 11 2026. No macro, syntax, notation, axiom, sorry.
-/
import Derived.Test.YtolfpchcmiljpaaChecked
import GoSem.Claim
import GoSem.ClaimJoined
import GoSem.ClaimMapViews
import Derived.JoinedTies
import Derived.KernelRfl
namespace Go.Proofs.Ytolfpchcmiljpaa
/- THE CELL 'sum', in the pinned program and in every row, IS THE sha256 OF THE DUMP (.gsa) THAT YtolfpchcmiljpaaProg.lean LOADS. Nothing in Lean hashes anything: it is a label: what it is worth is what the hold of that sum in a sandbox is worth. -/
noncomputable def Try.pinned : Pinned := { name := "ytolfpchcmiljpaa", sum := "6f9eb5e710a56ec3fdeb37ae74df4fdea8f227896a6e23e9040da2b75155af6f", checked := Try.checked }
namespace Rows
def none {H : Type} : Left H := { results := [], args := [] }

/-- 'simprooflaw16.DependRace': WHATEVER THE INPUT: true; the input reads as it did. -/
def dependRaceSpec : ChangeSpec := { name := "dependRace", fn := fun _ => fun
  | [d] => { results := [.lit (.bool true)], args := [d] }
  | _ => none }
def dependRaceRow : OpenClaim := { program := "ytolfpchcmiljpaa", sum := "6f9eb5e710a56ec3fdeb37ae74df4fdea8f227896a6e23e9040da2b75155af6f", func := "simproof/simprooflaw16.DependRace", spec := "dependRace", unfollowed := true, recurses := true, apart := false }
def DependRaceSaid : Prop := dependRaceRow.holds Try.pinned (OpenSpec.ofChange dependRaceSpec)

/-- ITS FALSE NEIGHBOUR: 'it returns false'. Refute it at one input. -/
def dependRaceWrong : ChangeSpec := { name := "dependRace", fn := fun _ => fun
  | [d] => { results := [.lit (.bool false)], args := [d] }
  | _ => none }
def DependRaceWrongFalsely : Prop := dependRaceRow.holds Try.pinned (OpenSpec.ofChange dependRaceWrong)

/-- 'simprooflaw16.DependChains': WHATEVER THE INPUT: true; the input reads as it did. -/
def dependChainsSpec : ChangeSpec := { name := "dependChains", fn := fun _ => fun
  | [d] => { results := [.lit (.bool true)], args := [d] }
  | _ => none }
def dependChainsRow : OpenClaim := { program := "ytolfpchcmiljpaa", sum := "6f9eb5e710a56ec3fdeb37ae74df4fdea8f227896a6e23e9040da2b75155af6f", func := "simproof/simprooflaw16.DependChains", spec := "dependChains", unfollowed := true, recurses := true, apart := false }
def DependChainsSaid : Prop := dependChainsRow.holds Try.pinned (OpenSpec.ofChange dependChainsSpec)

/-- ITS FALSE NEIGHBOUR: 'it returns false'. Refute it at one input. -/
def dependChainsWrong : ChangeSpec := { name := "dependChains", fn := fun _ => fun
  | [d] => { results := [.lit (.bool false)], args := [d] }
  | _ => none }
def DependChainsWrongFalsely : Prop := dependChainsRow.holds Try.pinned (OpenSpec.ofChange dependChainsWrong)

/-- 'simprooflaw16.DependOrder': WHATEVER THE INPUT: true; the input reads as it did. -/
def dependOrderSpec : ChangeSpec := { name := "dependOrder", fn := fun _ => fun
  | [d] => { results := [.lit (.bool true)], args := [d] }
  | _ => none }
def dependOrderRow : OpenClaim := { program := "ytolfpchcmiljpaa", sum := "6f9eb5e710a56ec3fdeb37ae74df4fdea8f227896a6e23e9040da2b75155af6f", func := "simproof/simprooflaw16.DependOrder", spec := "dependOrder", unfollowed := true, recurses := true, apart := false }
def DependOrderSaid : Prop := dependOrderRow.holds Try.pinned (OpenSpec.ofChange dependOrderSpec)

/-- ITS FALSE NEIGHBOUR: 'it returns false'. Refute it at one input. -/
def dependOrderWrong : ChangeSpec := { name := "dependOrder", fn := fun _ => fun
  | [d] => { results := [.lit (.bool false)], args := [d] }
  | _ => none }
def DependOrderWrongFalsely : Prop := dependOrderRow.holds Try.pinned (OpenSpec.ofChange dependOrderWrong)

/-- 'simprooflaw16.DependSwap': WHATEVER THE INPUT: true; the input reads as it did. -/
def dependSwapSpec : ChangeSpec := { name := "dependSwap", fn := fun _ => fun
  | [d1, d2] => { results := [.lit (.bool true)], args := [d1, d2] }
  | _ => none }
def dependSwapRow : OpenClaim := { program := "ytolfpchcmiljpaa", sum := "6f9eb5e710a56ec3fdeb37ae74df4fdea8f227896a6e23e9040da2b75155af6f", func := "simproof/simprooflaw16.DependSwap", spec := "dependSwap", unfollowed := true, recurses := true, apart := false }
def DependSwapSaid : Prop := dependSwapRow.holds Try.pinned (OpenSpec.ofChange dependSwapSpec)

/-- ITS FALSE NEIGHBOUR: 'it returns false'. Refute it at one input. -/
def dependSwapWrong : ChangeSpec := { name := "dependSwap", fn := fun _ => fun
  | [d1, d2] => { results := [.lit (.bool false)], args := [d1, d2] }
  | _ => none }
def DependSwapWrongFalsely : Prop := dependSwapRow.holds Try.pinned (OpenSpec.ofChange dependSwapWrong)

/-- 'simprooflaw16.DependCovers': WHATEVER THE INPUT: true; the input reads as it did. -/
def dependCoversSpec : ChangeSpec := { name := "dependCovers", fn := fun _ => fun
  | [d] => { results := [.lit (.bool true)], args := [d] }
  | _ => none }
def dependCoversRow : OpenClaim := { program := "ytolfpchcmiljpaa", sum := "6f9eb5e710a56ec3fdeb37ae74df4fdea8f227896a6e23e9040da2b75155af6f", func := "simproof/simprooflaw16.DependCovers", spec := "dependCovers", unfollowed := true, recurses := true, apart := false }
def DependCoversSaid : Prop := dependCoversRow.holds Try.pinned (OpenSpec.ofChange dependCoversSpec)

/-- ITS FALSE NEIGHBOUR: 'it returns false'. Refute it at one input. -/
def dependCoversWrong : ChangeSpec := { name := "dependCovers", fn := fun _ => fun
  | [d] => { results := [.lit (.bool false)], args := [d] }
  | _ => none }
def DependCoversWrongFalsely : Prop := dependCoversRow.holds Try.pinned (OpenSpec.ofChange dependCoversWrong)

/-- 'simprooflaw16.DependLinear': WHATEVER THE INPUT: true; the input reads as it did. -/
def dependLinearSpec : ChangeSpec := { name := "dependLinear", fn := fun _ => fun
  | [d1, d2] => { results := [.lit (.bool true)], args := [d1, d2] }
  | _ => none }
def dependLinearRow : OpenClaim := { program := "ytolfpchcmiljpaa", sum := "6f9eb5e710a56ec3fdeb37ae74df4fdea8f227896a6e23e9040da2b75155af6f", func := "simproof/simprooflaw16.DependLinear", spec := "dependLinear", unfollowed := true, recurses := true, apart := false }
def DependLinearSaid : Prop := dependLinearRow.holds Try.pinned (OpenSpec.ofChange dependLinearSpec)

/-- ITS FALSE NEIGHBOUR: 'it returns false'. Refute it at one input. -/
def dependLinearWrong : ChangeSpec := { name := "dependLinear", fn := fun _ => fun
  | [d1, d2] => { results := [.lit (.bool false)], args := [d1, d2] }
  | _ => none }
def DependLinearWrongFalsely : Prop := dependLinearRow.holds Try.pinned (OpenSpec.ofChange dependLinearWrong)

/-- 'simprooflaw16.DependSymmetric': WHATEVER THE INPUT: true; the input reads as it did. -/
def dependSymmetricSpec : ChangeSpec := { name := "dependSymmetric", fn := fun _ => fun
  | [d1, d2] => { results := [.lit (.bool true)], args := [d1, d2] }
  | _ => none }
def dependSymmetricRow : OpenClaim := { program := "ytolfpchcmiljpaa", sum := "6f9eb5e710a56ec3fdeb37ae74df4fdea8f227896a6e23e9040da2b75155af6f", func := "simproof/simprooflaw16.DependSymmetric", spec := "dependSymmetric", unfollowed := true, recurses := true, apart := false }
def DependSymmetricSaid : Prop := dependSymmetricRow.holds Try.pinned (OpenSpec.ofChange dependSymmetricSpec)

/-- ITS FALSE NEIGHBOUR: 'it returns false'. Refute it at one input. -/
def dependSymmetricWrong : ChangeSpec := { name := "dependSymmetric", fn := fun _ => fun
  | [d1, d2] => { results := [.lit (.bool false)], args := [d1, d2] }
  | _ => none }
def DependSymmetricWrongFalsely : Prop := dependSymmetricRow.holds Try.pinned (OpenSpec.ofChange dependSymmetricWrong)

/- THE SECOND FORM. 'bulk': how many values and letters a reading holds, each counted each time it is reached (what is shared counts as often as it is met; a slice's spare places count too). A statement '..UptoSaid' is the law's where the arguments, and the package variables that the reading takes, are together of bulk at most 1048576: NARROWER than '..Said'. Prove '..Said' where nothing that the law and all that it calls make is longer than what came in: it says more and counts as full. Else prove '..UptoSaid'. A law counts once. -/
mutual
def uptoBulk {H : Type} : DataW H → Nat
  | .lit (.string bytes) => bytes.length + 1
  | .lit _ => 1
  | .nil => 1
  | .ptr d => uptoBulk d + 1
  | .slice elems spare => uptoBulkAll elems + uptoBulkAll spare + 1
  | .agg parts => uptoBulkAll parts + 1
  | .iface _ d => uptoBulk d + 1
  | .map entries => uptoBulkEntries entries + 1
  | .held _ => 1
def uptoBulkAll {H : Type} : List (DataW H) → Nat
  | [] => 0
  | d :: r => uptoBulk d + uptoBulkAll r
def uptoBulkEntries {H : Type} : List (Lit × DataW H) → Nat
  | [] => 0
  | x :: r => uptoBulkEntry x + uptoBulkEntries r
def uptoBulkEntry {H : Type} : Lit × DataW H → Nat
  | (.string bytes, d) => bytes.length + uptoBulk d + 1
  | (_, d) => uptoBulk d + 1
 end
def uptoSmall : (H : Type) → List (DataW H) → Bool := fun _ ds => decide (uptoBulkAll ds ≤ 1048576)
def OpenSpec.upto (s : _root_.Go.ChangeSpec) : _root_.Go.OpenSpec := { _root_.Go.OpenSpec.ofChange s with cond := some uptoSmall }

/-- 'simprooflaw16.DependRace', WHERE WHAT IT READS IS OF BULK AT MOST 1048576: true; the input reads as it did. -/
def dependRaceUptoRow : OpenClaim := { program := "ytolfpchcmiljpaa", sum := "6f9eb5e710a56ec3fdeb37ae74df4fdea8f227896a6e23e9040da2b75155af6f", func := "simproof/simprooflaw16.DependRace", spec := "dependRace", unfollowed := true, recurses := true, apart := false, narrowed := true }
def DependRaceUptoSaid : Prop := dependRaceUptoRow.holds Try.pinned (OpenSpec.upto dependRaceSpec)

/-- 'simprooflaw16.DependChains', WHERE WHAT IT READS IS OF BULK AT MOST 1048576: true; the input reads as it did. -/
def dependChainsUptoRow : OpenClaim := { program := "ytolfpchcmiljpaa", sum := "6f9eb5e710a56ec3fdeb37ae74df4fdea8f227896a6e23e9040da2b75155af6f", func := "simproof/simprooflaw16.DependChains", spec := "dependChains", unfollowed := true, recurses := true, apart := false, narrowed := true }
def DependChainsUptoSaid : Prop := dependChainsUptoRow.holds Try.pinned (OpenSpec.upto dependChainsSpec)

/-- 'simprooflaw16.DependOrder', WHERE WHAT IT READS IS OF BULK AT MOST 1048576: true; the input reads as it did. -/
def dependOrderUptoRow : OpenClaim := { program := "ytolfpchcmiljpaa", sum := "6f9eb5e710a56ec3fdeb37ae74df4fdea8f227896a6e23e9040da2b75155af6f", func := "simproof/simprooflaw16.DependOrder", spec := "dependOrder", unfollowed := true, recurses := true, apart := false, narrowed := true }
def DependOrderUptoSaid : Prop := dependOrderUptoRow.holds Try.pinned (OpenSpec.upto dependOrderSpec)

/-- 'simprooflaw16.DependSwap', WHERE WHAT IT READS IS OF BULK AT MOST 1048576: true; the input reads as it did. -/
def dependSwapUptoRow : OpenClaim := { program := "ytolfpchcmiljpaa", sum := "6f9eb5e710a56ec3fdeb37ae74df4fdea8f227896a6e23e9040da2b75155af6f", func := "simproof/simprooflaw16.DependSwap", spec := "dependSwap", unfollowed := true, recurses := true, apart := false, narrowed := true }
def DependSwapUptoSaid : Prop := dependSwapUptoRow.holds Try.pinned (OpenSpec.upto dependSwapSpec)

/-- 'simprooflaw16.DependCovers', WHERE WHAT IT READS IS OF BULK AT MOST 1048576: true; the input reads as it did. -/
def dependCoversUptoRow : OpenClaim := { program := "ytolfpchcmiljpaa", sum := "6f9eb5e710a56ec3fdeb37ae74df4fdea8f227896a6e23e9040da2b75155af6f", func := "simproof/simprooflaw16.DependCovers", spec := "dependCovers", unfollowed := true, recurses := true, apart := false, narrowed := true }
def DependCoversUptoSaid : Prop := dependCoversUptoRow.holds Try.pinned (OpenSpec.upto dependCoversSpec)

/-- 'simprooflaw16.DependLinear', WHERE WHAT IT READS IS OF BULK AT MOST 1048576: true; the input reads as it did. -/
def dependLinearUptoRow : OpenClaim := { program := "ytolfpchcmiljpaa", sum := "6f9eb5e710a56ec3fdeb37ae74df4fdea8f227896a6e23e9040da2b75155af6f", func := "simproof/simprooflaw16.DependLinear", spec := "dependLinear", unfollowed := true, recurses := true, apart := false, narrowed := true }
def DependLinearUptoSaid : Prop := dependLinearUptoRow.holds Try.pinned (OpenSpec.upto dependLinearSpec)

/-- 'simprooflaw16.DependSymmetric', WHERE WHAT IT READS IS OF BULK AT MOST 1048576: true; the input reads as it did. -/
def dependSymmetricUptoRow : OpenClaim := { program := "ytolfpchcmiljpaa", sum := "6f9eb5e710a56ec3fdeb37ae74df4fdea8f227896a6e23e9040da2b75155af6f", func := "simproof/simprooflaw16.DependSymmetric", spec := "dependSymmetric", unfollowed := true, recurses := true, apart := false, narrowed := true }
def DependSymmetricUptoSaid : Prop := dependSymmetricUptoRow.holds Try.pinned (OpenSpec.upto dependSymmetricSpec)

end Rows
end Go.Proofs.Ytolfpchcmiljpaa
