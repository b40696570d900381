/- What all rows of the seat ask of the program; no condition. -/
import Derived.Test.YtbkhhfekdpkhbaaRows
import Derived.WalkKit
import Derived.ProofKit
import Derived.OpenShut
namespace Go.Proofs.Ytbkhhfekdpkhbaa.Ab
open Go
set_option linter.unusedSimpArgs false
set_option linter.unusedVariables false
set_option maxRecDepth 100000
open Go.ChangeShapes Go.WideShapes Go.ChangeAt Go.RowKit

theorem p_enter : Try.pinned.checked.prog.mayEnter = true := by kernel_rfl
theorem p_lifts : Try.pinned.checked.prog.liftsFinal = false := by kernel_rfl
theorem p_make : (Try.pinned.checked.prog.make == some .cut) = true := by kernel_rfl
theorem p_laid : laidOutB Try.pinned.checked.prog = true := by kernel_rfl
theorem p_maps : mapsRowed Try.pinned.checked.prog = true := by kernel_rfl
theorem p_heard : Try.pinned.checked.prog.stopsHeard = true := by kernel_rfl
theorem p_plain : Try.pinned.checked.prog.plainKeys = true := by kernel_rfl
end Go.Proofs.Ytbkhhfekdpkhbaa.Ab
