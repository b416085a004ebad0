/- Runs by the kernel: the statement at three remainders. Conditions: those stated in each theorem. -/
import Derived.Test.YtmikbfdpenggjaaGreatDoorCvJ
import Derived.KernelRfl
namespace Go.Proofs.YtmikbfdpenggjaaGreatDoor.Cv
open Go
noncomputable section
theorem run20 : okT (callN M3 20000 3 [.md 5 2, .md 3 0] H0) = true := by kernel_rfl
theorem run21 : okT (callN M3 20000 3 [.md 5 2, .md 3 1] H0) = true := by kernel_rfl
theorem run22 : okT (callN M3 20000 3 [.md 5 2, .md 3 2] H0) = true := by kernel_rfl
end
end Go.Proofs.YtmikbfdpenggjaaGreatDoor.Cv
