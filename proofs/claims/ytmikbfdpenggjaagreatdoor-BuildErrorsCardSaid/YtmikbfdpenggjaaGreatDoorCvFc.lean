/- Closed facts on the translation, by the kernel. No conditions. -/
import Derived.Test.YtmikbfdpenggjaaGreatDoorRows
import Derived.JoinedOf
namespace Go.Proofs.YtmikbfdpenggjaaGreatDoor
theorem fact_unf : (Rows.buildErrorsRow.unfollowed == Tryz.prog.unfollowed 3) = true := by kernel_rfl
theorem fact_heard : Tryz.prog.stopsHeard = true := by kernel_rfl
theorem fact_enter : Tryz.prog.mayEnter = true := by kernel_rfl
theorem fact_name : Tryz.prog.funcNamed "debugger/debuggerlaw22.BuildErrors" = some 3 := by kernel_rfl
end Go.Proofs.YtmikbfdpenggjaaGreatDoor
