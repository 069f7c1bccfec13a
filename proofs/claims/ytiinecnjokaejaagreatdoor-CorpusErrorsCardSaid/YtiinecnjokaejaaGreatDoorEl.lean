/- Programs are built and verified (printed by a program). -/
import Derived.Test.YtiinecnjokaejaaGreatDoorZAa
set_option maxRecDepth 1000000
set_option linter.unusedVariables false
namespace Go.Proofs.YtiinecnjokaejaaGreatDoor
open Go Go.RowKit
theorem bld0:BldOK (srcB 0) (srcC 0) (srcR 0) (srcN 0):=.of (by kernel_rfl)
theorem ver0:VerOK (srcC 0) (srcR 0) (srcN 0):=.of (fun t z=>by kernel_rfl) (fun h=>by simp [srcC,srcC0,cvs] at h)
theorem bld1:BldOK (srcB 1) (srcC 1) (srcR 1) (srcN 1):=.of (by kernel_rfl)
theorem ver1:VerOK (srcC 1) (srcR 1) (srcN 1):=.of (fun t z=>by kernel_rfl) (fun h=>by simp [srcC,srcC1,cvs] at h)
theorem bld3:BldOK (srcB 3) (srcC 3) (srcR 3) (srcN 3):=.of (by kernel_rfl)
theorem ver3:VerOK (srcC 3) (srcR 3) (srcN 3):=.of (fun t z=>by kernel_rfl) (fun h=>by simp [srcC,srcC3,cvs] at h)
end Go.Proofs.YtiinecnjokaejaaGreatDoor
