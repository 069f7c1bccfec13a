/- Programs are built and verified (printed by a program). -/
import Derived.Test.YtkkpchcniicimaaGreatZAa
set_option linter.all false
set_option maxRecDepth 1000000
namespace Go.Proofs.YtkkpchcniicimaaGreat
open Go Go.RowKit
theorem AcV:Le (Hv 4) (Hd 4) (HX 4) (IG 4):=.of af0
theorem AcW:Kd (Hd 4) (HX 4) (IG 4):=.of (λt z=>by kernel_rfl) (λh=>by simp[Hd,xj,EX] at h)
theorem AcX:Le (Hv 5) (Hd 5) (HX 5) (IG 5):=.of af0
theorem AcY:Kd (Hd 5) (HX 5) (IG 5):=.of (λt z=>by kernel_rfl) (λh=>by simp[Hd,xm,EX] at h)
theorem AcZ:Le (Hv 7) (Hd 7) (HX 7) (IG 7):=.of af0
theorem Ac0:Kd (Hd 7) (HX 7) (IG 7):=.of (λt z=>by kernel_rfl) (λh=>by simp[Hd,xq,EX] at h)
end Go.Proofs.YtkkpchcniicimaaGreat
