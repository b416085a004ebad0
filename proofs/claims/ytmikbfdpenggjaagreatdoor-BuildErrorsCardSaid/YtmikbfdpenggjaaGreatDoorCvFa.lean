/- Closed facts on the translation, by the kernel. No conditions. -/
import Derived.Test.YtmikbfdpenggjaaGreatDoorRows
import Derived.JoinedOf
namespace Go.Proofs.YtmikbfdpenggjaaGreatDoor
theorem fact_lay : laidOutB Tryz.prog = true := by kernel_rfl
theorem fact_rowed : mapsRowed Tryz.prog = true := by kernel_rfl
theorem fact_inPlace : (Rows.buildErrorsRow.inPlace == Tryz.prog.inPlace 3) = true := by kernel_rfl
end Go.Proofs.YtmikbfdpenggjaaGreatDoor
