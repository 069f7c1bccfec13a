/- Programs are built and verified (printed by a program). -/
import Derived.Test.YtkkpchcniicimaaGreatZAa
set_option linter.all false
set_option maxRecDepth 1000000
namespace Go.Proofs.YtkkpchcniicimaaGreat
open Go Go.RowKit
theorem Ac1:Le (Hv 6) (Hd 6) (HX 6) (IG 6):=.of af0
theorem Ac2:Kd (Hd 6) (HX 6) (IG 6):=.of (λt z=>by kernel_rfl) (λh=>by simp[Hd,xp,EX] at h)
theorem Ac3:Le (Hv 8) (Hd 8) (HX 8) (IG 8):=.of af0
theorem Ac4:Kd (Hd 8) (HX 8) (IG 8):=.of (λt z=>by kernel_rfl) (λh=>by simp[Hd,xu,EX] at h)
theorem Ac5:Le (Hv 9) (Hd 9) (HX 9) (IG 9):=.of af0
theorem Ac6:Kd (Hd 9) (HX 9) (IG 9):=.of (λt z=>by kernel_rfl) (λh=>by simp[Hd,xw,EX] at h)
theorem Abr:Le (Hv 10) (Hd 10) (HX 10) (IG 10):=.of af0
theorem Abs:Kd (Hd 10) (HX 10) (IG 10):=.of (λt z=>by kernel_rfl) (λh=>by simp[Hd,ni,EX] at h)
theorem Abt:yj (Hv 11) (HX 11):=.of af0 af0
theorem Abu:Kd (Hd 11) (HX 11) (IG 11):=.of (λt z=>by kernel_rfl) (λ_=>by kernel_rfl)
end Go.Proofs.YtkkpchcniicimaaGreat
