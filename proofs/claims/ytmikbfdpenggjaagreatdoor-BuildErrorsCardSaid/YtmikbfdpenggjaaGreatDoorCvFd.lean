/- Closed facts on the translation, by the kernel. No conditions. -/
import Derived.Test.YtmikbfdpenggjaaGreatDoorRows
import Derived.SevenTiedAt
namespace Go.Proofs.YtmikbfdpenggjaaGreatDoor
theorem fact_main : Tryz.prog.mainIs = some (true, "a73f06bc24210afeb78cfa55c7e90bccb11ea20307a1bed2efd1e15f61497768".toList) := by kernel_rfl
theorem fact_looks : true = Tryz.prog.looks [] := by kernel_rfl
theorem fact_stand : Tryz.prog.wantsStandIn 3 = false := by kernel_rfl
theorem fact_goes : false = Rows.buildErrorsRow.goesBy Tryz.prog := by kernel_rfl
end Go.Proofs.YtmikbfdpenggjaaGreatDoor
