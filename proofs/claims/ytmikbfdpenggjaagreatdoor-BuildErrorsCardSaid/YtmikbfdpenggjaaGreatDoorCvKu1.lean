/- A run by the kernel: a unit. Conditions: those stated in each theorem. -/
import Derived.Test.YtmikbfdpenggjaaGreatDoorCvJ
import Derived.KernelRfl
namespace Go.Proofs.YtmikbfdpenggjaaGreatDoor.Cv
open Go
noncomputable section
theorem unit_run1 : tplChk unit1Z unit1O unit1V (callN Mp 20000 7 [textV, .i .i64 1] H0) = true := by kernel_rfl
end
end Go.Proofs.YtmikbfdpenggjaaGreatDoor.Cv
