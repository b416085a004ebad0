/- Runs by the kernel: insertion. Conditions: those stated in each theorem. -/
import Derived.Test.YtmikbfdpenggjaaGreatDoorCvJ
import Derived.KernelRfl
namespace Go.Proofs.YtmikbfdpenggjaaGreatDoor.Cv
open Go
noncomputable section
theorem grow1 : insOut (callN M0 2000 234 (insArgs 8 1 2 9) (insH insL1 insV1)) = some (10, 2, 0, some (.c insL2 247), some (.c insV1 0)) := by kernel_rfl
theorem fit1 (d : Nat) : insOut (callN M0 2000 234 (insArgs 8 1 (d + 2 + 1) 9) (insH (insL1 ++ un11) insV1)) = some (8, 2, d + 2 + 1, some (.c insL2 0), some (.c insV1 0)) := by kernel_rfl
theorem grow2 : insOut (callN M0 2000 234 (insArgs 8 2 3 9) (insH insL2 insV2)) = some (10, 3, 0, some (.c insL3 247), some (.c insV2 0)) := by kernel_rfl
theorem fit2 (d : Nat) : insOut (callN M0 2000 234 (insArgs 8 2 (d + 3 + 1) 9) (insH (insL2 ++ un11) insV2)) = some (8, 3, d + 3 + 1, some (.c insL3 0), some (.c insV2 0)) := by kernel_rfl
end
end Go.Proofs.YtmikbfdpenggjaaGreatDoor.Cv
