/- Programs are built and verified (printed by a program). -/
import Derived.Test.YtiinecnjokaejaaGreatDoorZAa
set_option maxRecDepth 1000000
set_option linter.unusedVariables false
namespace Go.Proofs.YtiinecnjokaejaaGreatDoor
open Go Go.RowKit
theorem bld6:BldOK (srcB 6) (srcC 6) (srcR 6) (srcN 6):=.of (by kernel_rfl)
theorem ver6:VerOK (srcC 6) (srcR 6) (srcN 6):=.of (fun t z=>by kernel_rfl) (fun h=>by simp [srcC,srcC6,cvs] at h)
theorem bld8:BldOK (srcB 8) (srcC 8) (srcR 8) (srcN 8):=.of (by kernel_rfl)
theorem ver8:VerOK (srcC 8) (srcR 8) (srcN 8):=.of (fun t z=>by kernel_rfl) (fun h=>by simp [srcC,srcC8,cvs] at h)
theorem bld9:BldOK (srcB 9) (srcC 9) (srcR 9) (srcN 9):=.of (by kernel_rfl)
theorem ver9:VerOK (srcC 9) (srcR 9) (srcN 9):=.of (fun t z=>by kernel_rfl) (fun h=>by simp [srcC,srcC9,cvs] at h)
theorem bld10:BldOK (srcB 10) (srcC 10) (srcR 10) (srcN 10):=.of (by kernel_rfl)
theorem ver10:VerOK (srcC 10) (srcR 10) (srcN 10):=.of (fun t z=>by kernel_rfl) (fun h=>by simp [srcC,srcC10,cvs] at h)
theorem bld11:Bld0 (srcB 11) (srcR 11):=.of (by kernel_rfl) (by kernel_rfl)
theorem ver11:VerOK (srcC 11) (srcR 11) (srcN 11):=.of (fun t z=>by kernel_rfl) (fun _=>by kernel_rfl)
end Go.Proofs.YtiinecnjokaejaaGreatDoor
