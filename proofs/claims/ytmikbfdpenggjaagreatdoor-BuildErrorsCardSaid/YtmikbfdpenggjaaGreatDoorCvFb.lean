/- Closed facts on the translation, by the kernel. No conditions. -/
import Derived.Test.YtmikbfdpenggjaaGreatDoorRows
import Derived.JoinedOf
namespace Go.Proofs.YtmikbfdpenggjaaGreatDoor
theorem fact_nam : (Rows.buildErrorsRow.named == Tryz.prog.varsNamed 3) = true := by kernel_rfl
theorem fact_rcs : (Rows.buildErrorsRow.recurses == Tryz.prog.recurses 3) = true := by kernel_rfl
end Go.Proofs.YtmikbfdpenggjaaGreatDoor
