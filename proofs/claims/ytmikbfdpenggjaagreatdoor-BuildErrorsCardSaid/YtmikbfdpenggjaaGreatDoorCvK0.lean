/- Runs by the kernel: the statement at three remainders. Conditions: those stated in each theorem. -/
import Derived.Test.YtmikbfdpenggjaaGreatDoorCvJ
import Derived.KernelRfl
namespace Go.Proofs.YtmikbfdpenggjaaGreatDoor.Cv
open Go
noncomputable section
theorem run00 : okT (callN M3 20000 3 [.md 5 0, .md 3 0] H0) = true := by kernel_rfl
theorem run01 : okT (callN M3 20000 3 [.md 5 0, .md 3 1] H0) = true := by kernel_rfl
theorem run02 : okT (callN M3 20000 3 [.md 5 0, .md 3 2] H0) = true := by kernel_rfl
end
end Go.Proofs.YtmikbfdpenggjaaGreatDoor.Cv
