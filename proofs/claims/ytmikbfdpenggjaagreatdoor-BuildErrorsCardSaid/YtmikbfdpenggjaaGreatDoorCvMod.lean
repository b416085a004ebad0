/- The remainder function at any number. Conditions: those stated in each theorem. -/
import Derived.Test.YtmikbfdpenggjaaGreatDoorCvI
import Derived.Test.YtmikbfdpenggjaaGreatDoorCvOk
import Derived.WalkKit
import Derived.WalkSpells
namespace Go.Proofs.YtmikbfdpenggjaaGreatDoor.Cv
open Go Go.Proofs Go.RowKit
theorem ret_int {k : IntKind} {a b : Int} (h : a = b) : Ending.returned (.int k a) = .returned (.int k b) := by rw [h]
theorem emod_pos {n k : Int} (hk : 1 ≤ k) (h : ¬ n.tmod k < 0) : n.tmod k = n % k := by
  rcases Int.lt_or_le n 0 with hn | hn
  · have h1 := Int.tmod_eq_emod (a := n) (b := k)
    have h2 := Int.emod_nonneg n (b := k) (by omega)
    have h3 := Int.emod_lt_of_pos n (b := k) (by omega)
    rw [h1] at h ⊢
    split at h
    · rename_i hc; rw [if_pos hc]; omega
    · exfalso; omega
  · exact Int.tmod_eq_emod_of_nonneg hn
theorem emod_neg {n k : Int} (hk : 1 ≤ k) (h : n.tmod k < 0) : n.tmod k + k = n % k := by
  have h1 := Int.tmod_eq_emod (a := n) (b := k)
  have h2 := Int.emod_nonneg n (b := k) (by omega)
  rw [h1] at h ⊢
  split at h
  · exfalso; omega
  · rename_i hc; rw [if_neg hc]; omega
set_option maxHeartbeats 400000 in
theorem mod_any (n k : Int) (w : World) (hk : 1 ≤ k) (hk2 : k ≤ 1000) :
    Calls Tryz.prog 4 #[.int .i64 n, .int .i64 k] w fun e w' => e = .returned (.int .i64 (n % k)) ∧ w = w' := by
  have hb1 : n.tmod k < k := Int.tmod_lt_of_pos n (by omega)
  have hb2 : -k < n.tmod k := by have := Int.lt_tmod_of_pos n (b := k) (by omega); omega
  have hk0 : ¬ k = 0 := by omega
  by_cases h : n.tmod k < 0
  · go_enter Tryz.func4, Tryz.ntmps4
    go_wp2
    go_ret
    exact ⟨ret_int (emod_neg hk h), rfl⟩
  · go_enter Tryz.func4, Tryz.ntmps4
    go_wp2
    go_ret
    exact ⟨ret_int (emod_pos hk (by omega)), rfl⟩
end Go.Proofs.YtmikbfdpenggjaaGreatDoor.Cv
