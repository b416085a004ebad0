/- A run by the kernel: a unit. Conditions: those stated in each theorem. -/
import Derived.Test.YtmikbfdpenggjaaGreatDoorCvJ
import Derived.KernelRfl
namespace Go.Proofs.YtmikbfdpenggjaaGreatDoor.Cv
open Go
noncomputable section
theorem unit_run2 : tplChk unit2Z unit2O unit2V (callN Mp 20000 7 [textV, .i .i64 2] H0) = true := by kernel_rfl
end
end Go.Proofs.YtmikbfdpenggjaaGreatDoor.Cv
