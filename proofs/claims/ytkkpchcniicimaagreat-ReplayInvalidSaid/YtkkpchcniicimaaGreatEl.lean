/- Programs are built and verified (printed by a program). -/
import Derived.Test.YtkkpchcniicimaaGreatZAa
set_option linter.all false
set_option maxRecDepth 1000000
namespace Go.Proofs.YtkkpchcniicimaaGreat
open Go Go.RowKit
theorem AcP:Le (Hv 0) (Hd 0) (HX 0) (IG 0):=.of af0
theorem AcQ:Kd (Hd 0) (HX 0) (IG 0):=.of (λt z=>by kernel_rfl) (λh=>by simp[Hd,xg,EX] at h)
theorem AcR:Le (Hv 1) (Hd 1) (HX 1) (IG 1):=.of af0
theorem AcS:Kd (Hd 1) (HX 1) (IG 1):=.of (λt z=>by kernel_rfl) (λh=>by simp[Hd,xh,EX] at h)
theorem AcT:Le (Hv 3) (Hd 3) (HX 3) (IG 3):=.of af0
theorem AcU:Kd (Hd 3) (HX 3) (IG 3):=.of (λt z=>by kernel_rfl) (λh=>by simp[Hd,xi,EX] at h)
end Go.Proofs.YtkkpchcniicimaaGreat
