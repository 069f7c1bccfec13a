/- The constant table of the seat, if there is one. -/
import GoSem.Claim
namespace Go.Proofs.YtofjnhdgkhfgnaaDoor
open Go
def gOn : Bool := true
def gVar : Nat := 0
def gTyp : Nat := 81
def gTab : List (Int × Nat) := [(2, 119), (3, 120), (4, 122), (5, 123), (6, 124), (7, 125)]
end Go.Proofs.YtofjnhdgkhfgnaaDoor
