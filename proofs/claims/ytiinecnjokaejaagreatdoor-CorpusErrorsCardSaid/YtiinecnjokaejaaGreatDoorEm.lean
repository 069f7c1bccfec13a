/- Programs are built and verified (printed by a program). -/
import Derived.Test.YtiinecnjokaejaaGreatDoorZAa
set_option maxRecDepth 1000000
set_option linter.unusedVariables false
namespace Go.Proofs.YtiinecnjokaejaaGreatDoor
open Go Go.RowKit
theorem bld4:BldOK (srcB 4) (srcC 4) (srcR 4) (srcN 4):=.of (by kernel_rfl)
theorem ver4:VerOK (srcC 4) (srcR 4) (srcN 4):=.of (fun t z=>by kernel_rfl) (fun h=>by simp [srcC,srcC4,cvs] at h)
theorem bld5:BldOK (srcB 5) (srcC 5) (srcR 5) (srcN 5):=.of (by kernel_rfl)
theorem ver5:VerOK (srcC 5) (srcR 5) (srcN 5):=.of (fun t z=>by kernel_rfl) (fun h=>by simp [srcC,srcC5,cvs] at h)
theorem bld7:BldOK (srcB 7) (srcC 7) (srcR 7) (srcN 7):=.of (by kernel_rfl)
theorem ver7:VerOK (srcC 7) (srcR 7) (srcN 7):=.of (fun t z=>by kernel_rfl) (fun h=>by simp [srcC,srcC7,cvs] at h)
end Go.Proofs.YtiinecnjokaejaaGreatDoor
