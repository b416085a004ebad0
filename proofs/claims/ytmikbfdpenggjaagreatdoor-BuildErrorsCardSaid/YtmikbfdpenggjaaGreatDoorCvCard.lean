/- BuildErrors' card: the statement, its three listed package variables tied to the program's text. No conditions. -/
import Derived.Test.YtmikbfdpenggjaaGreatDoorCvRow
import Derived.Test.YtmikbfdpenggjaaGreatDoorCvFd
import Derived.Test.YtmikbfdpenggjaaGreatDoorTie
import Derived.Test.YtmikbfdpenggjaaGreatDoorCards
import Derived.SevenTiedAt
namespace Go.Proofs.YtmikbfdpenggjaaGreatDoor
open Go
theorem card_looks (f : FuncId) (fn : Func) (hf : Tryz.prog.funcNamed "debugger/debuggerlaw22.BuildErrors" = some f) (hfn : Tryz.prog.funcs[f]? = some fn) :
    true = Tryz.prog.looks [] ∧ ∀ (j : Nat) t, fn.params[j]? = some t → Tryz.prog.wantsStandIn t = false := by
  obtain rfl : f = 3 := (Option.some.inj (fact_name.symm.trans hf)).symm
  obtain rfl : fn = Tryz.f3 := (Option.some.inj (Tryz.func3.symm.trans hfn)).symm
  refine ⟨fact_looks, fun j t ht => ?_⟩
  rw [Tryz.params3] at ht
  have h3 : t = 3 := by
    rcases j with _ | _ | j
    · simpa using ht.symm
    · simpa using ht.symm
    · simp at ht
  subst h3
  exact fact_stand
theorem buildErrors_card : Rows.BuildErrorsCardSaid :=
  Claim7.holds_tied_plain_at .later [] [.data, .data, .data] true (true, "a73f06bc24210afeb78cfa55c7e90bccb11ea20307a1bed2efd1e15f61497768") true
    buildErrors_row (fun _ h => by cases h) (by kernel_rfl) (fun _ h => by cases h) buildErrors_row_tie rfl ⟨rfl, rfl⟩ fact_main rfl card_looks fact_goes
#print axioms buildErrors_card
end Go.Proofs.YtmikbfdpenggjaaGreatDoor
