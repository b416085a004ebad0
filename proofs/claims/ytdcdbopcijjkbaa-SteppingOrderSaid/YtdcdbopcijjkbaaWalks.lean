/- The contracts of the small functions that the stepping statements call, walked over the translated program. Conditions: the bounds stated in each theorem. -/
import Derived.Test.YtdcdbopcijjkbaaRows
import Derived.WalkKit
import Derived.WalkSpells
import Derived.WalkLawsBesides
import Derived.StillTailTactics
import Derived.Deep.QuietTactic
import Derived.BigQuiet
import Derived.Lib.Hide
namespace Go.Proofs.Ytdcdbopcijjkbaa
open Go.RowKit

theorem ret_bool {a b : Bool} (h : a = b) : Ending.returned (.bool a) = .returned (.bool b) := by rw [h]
theorem ret_int {k : IntKind} {a b : Int} (h : a = b) : Ending.returned (.int k a) = .returned (.int k b) := by rw [h]

theorem emod_pos {n k : Int} (hk : 1 ≤ k) (h : ¬ n.tmod k < 0) : n.tmod k = n % k := by
  rcases Int.lt_or_le n 0 with hn | hn
  · have h1 := Int.tmod_eq_emod (a := n) (b := k)
    have h2 := Int.emod_nonneg n (b := k) (by omega)
    have h3 := Int.emod_lt_of_pos n (b := k) (by omega)
    rw [h1] at h ⊢
    split at h
    · rename_i hc; rw [if_pos hc]; omega
    · exfalso; omega
  · exact Int.tmod_eq_emod_of_nonneg hn
theorem emod_neg {n k : Int} (hk : 1 ≤ k) (h : n.tmod k < 0) : n.tmod k + k = n % k := by
  have h1 := Int.tmod_eq_emod (a := n) (b := k)
  have h2 := Int.emod_nonneg n (b := k) (by omega)
  rw [h1] at h ⊢
  split at h
  · exfalso; omega
  · rename_i hc; rw [if_neg hc]; omega

set_option maxHeartbeats 400000 in
theorem mod_any (n k : Int) (w : World) (hk : 1 ≤ k) (hk2 : k ≤ 1000) (hn : -9223372036854775808 ≤ n) (hn2 : n ≤ 9223372036854775807) :
    Calls Try.prog 8 #[.int .i64 n, .int .i64 k] w fun e w' => e = .returned (.int .i64 (n % k)) ∧ w = w' := by
  have hb1 : n.tmod k < k := Int.tmod_lt_of_pos n (by omega)
  have hb2 : -k < n.tmod k := by have := Int.lt_tmod_of_pos n (b := k) (by omega); omega
  have hk0 : ¬ k = 0 := by omega
  by_cases h : n.tmod k < 0
  · go_enter Try.func8, Try.ntmps8
    go_wp2
    go_ret
    exact ⟨ret_int (emod_neg hk h), rfl⟩
  · go_enter Try.func8, Try.ntmps8
    go_wp2
    go_ret
    exact ⟨ret_int (emod_pos hk (by omega)), rfl⟩

/-- near: an identity of one of few frames. -/
theorem near_any (x y z : Int) (w : World) (hx : -9223372036854775808 ≤ x) (hx2 : x ≤ 9223372036854775807) (hy : -9223372036854775808 ≤ y) (hy2 : y ≤ 9223372036854775807) (hz : -9223372036854775808 ≤ z) (hz2 : z ≤ 9223372036854775807) :
    Calls Try.prog 7 #[.agg #[.int .i64 x, .int .i64 y, .int .i64 z]] w fun e w' => e = .returned (.agg #[.int .i64 (x % 3), .int .i64 (y % 3), .int .i64 (z % 9)]) ∧ Below w.heap.size w w' := by
  go_enter Try.func7, Try.ntmps7
  go_wp2
  refine wp_region_still_tail 10 (by kernel_rfl) (by kernel_rfl) ?_
  simp only [List.take_succ_cons, List.take_zero, List.drop_succ_cons, List.drop_zero]
  change wpStill _ _ (World.drew _) _ _ _
  repeat still_step
  still_call ((mod_any _ _ _ (by omega) (by omega) (by omega) (by omega)).mono (by rintro e w' ⟨rfl, rfl⟩; exact ⟨rfl, rfl⟩))
  repeat still_step
  still_call ((mod_any _ _ _ (by omega) (by omega) (by omega) (by omega)).mono (by rintro e w' ⟨rfl, rfl⟩; exact ⟨rfl, rfl⟩))
  repeat still_step
  still_call ((mod_any _ _ _ (by omega) (by omega) (by omega) (by omega)).mono (by rintro e w' ⟨rfl, rfl⟩; exact ⟨rfl, rfl⟩))
  repeat still_step
  refine wpStill_nil ?_
  change wpList _ _ _ _ _ (World.drew _)
  go_wp2
  refine bodyPost_ret (v := .agg #[.int .i64 (x % 3), .int .i64 (y % 3), .int .i64 (z % 9)]) (by simp [results, Try.results7, go_sem]) rfl ⟨rfl, ?_⟩
  exact (((Below.refl _ _).alloc (Nat.le_refl _) _).alloc (by simp) _).drew

/-- What the walks are told of a value of type Debug: its procs are np copies of one function whose contexts have the parents ps. -/
structure IsDbg (w : World) (bp np bc cap : Nat) (ps : List Int) : Prop where
  procs : ∀ j, j < np → w.cell? ⟨bp, j * 11 + 5, none⟩ = some (.slice (some ⟨bc, 0, none⟩) ps.length cap)
  ctxs : ∀ i, i < ps.length → w.cell? ⟨bc, i * 3, none⟩ = some (.int .i64 (ps.getD i 0))

/-- the value -/
abbrev dbgV (bp np npc : Nat) : Value := .agg #[.int .i64 0, .int .i64 0, .slice none 0 0, .slice none 0 0, .slice (some ⟨bp, 0, none⟩) np npc]

def withinTo (ps : List Int) (anc : Int) : Nat → Int → Bool
  | 0, _ => false
  | k + 1, c => if c < 0 ∨ ps.length ≤ c then false else if ps.getD c.toNat 0 = anc then true else withinTo ps anc k (ps.getD c.toNat 0)
def withinS (ps : List Int) (c anc : Int) : Bool := if anc < 0 ∨ ps.length ≤ anc then false else withinTo ps anc ps.length c

set_option maxHeartbeats 400000 in
theorem within_any (ps : List Int) (bc cap : Nat) (c anc : Int) (w : World) (hl : ps.length ≤ 9) (hc : ∀ i, i < ps.length → w.cell? ⟨bc, i * 3, none⟩ = some (.int .i64 (ps.getD i 0))) :
    Calls Try.prog 14 #[.slice (some ⟨bc, 0, none⟩) ps.length cap, .int .i64 c, .int .i64 anc] w fun e w' => e = .returned (.bool (withinS ps c anc)) ∧ w = w' := by
  by_cases ha : anc < 0 ∨ ps.length ≤ anc
  · have hS : withinS ps c anc = false := by simp [withinS, ha]
    have HS := Lib.hid hS; clear hS
    rcases ha with ha | ha
    · go_enter Try.func14, Try.ntmps14
      go_wp2
      go_ret
      exact ⟨ret_bool HS.out.symm, rfl⟩
    · by_cases ha' : anc < 0
      · go_enter Try.func14, Try.ntmps14
        go_wp2
        go_ret
        exact ⟨ret_bool HS.out.symm, rfl⟩
      · go_enter Try.func14, Try.ntmps14
        go_wp2
        go_ret
        exact ⟨ret_bool HS.out.symm, rfl⟩
  · have h1 : ¬ anc < 0 := by omega
    have h2 : ¬ (ps.length : Int) ≤ anc := by omega
    have hS : withinS ps c anc = withinTo ps anc ps.length c := by simp [withinS, ha]
    have HS := Lib.hid hS; clear hS ha
    have HC := Lib.hid hc; clear hc
    go_enter Try.func14, Try.ntmps14
    go_wp2
    go_loop [1, 17] (fun c' i => ∃ (k : Nat) (d : Int), k ≤ ps.length ∧ i = .int .i64 k ∧ c' = .int .i64 d ∧ Hid (withinTo ps anc ps.length c = withinTo ps anc (ps.length - k) d)) (fun _ i => ps.length - (intOf i).toNat)
    case atStart => exact ⟨0, c, Nat.zero_le _, rfl, rfl, Lib.hid rfl⟩
    case round =>
      obtain ⟨k, d, hk, rfl, rfl, HT⟩ := hrel
      by_cases hlt : k < ps.length
      · by_cases hd : d < 0 ∨ (ps.length : Int) ≤ d
        · have hT := HT.out
          rw [show ps.length - k = (ps.length - k - 1) + 1 by omega, withinTo, if_pos hd] at hT
          have HT2 := Lib.hid hT; clear hT HT
          rcases hd with hd | hd
          · go_wp2
            go_ret
            exact ⟨ret_bool (HS.out.trans HT2.out).symm, rfl⟩
          · by_cases hd' : d < 0
            · go_wp2
              go_ret
              exact ⟨ret_bool (HS.out.trans HT2.out).symm, rfl⟩
            · go_wp2
              go_ret
              exact ⟨ret_bool (HS.out.trans HT2.out).symm, rfl⟩
        · obtain ⟨j, rfl⟩ := Int.eq_ofNat_of_zero_le (show 0 ≤ d by omega)
          have hj : j < ps.length := by omega
          have hcell := HC.out j hj
          have hT := HT.out
          rw [show ps.length - k = (ps.length - (k + 1)) + 1 by omega, withinTo, if_neg hd, Int.toNat_natCast] at hT
          generalize ps.getD j 0 = v at hcell hT
          have HT2 := Lib.hid hT; clear hT HT
          have h3 : 0 ≤ (j : Int) := by omega
          have h4 : (j : Int) < ps.length := by omega
          clear hd
          by_cases hv : v = anc
          · have hb : (v == anc) = true := by simp [hv]
            have hT3 := HT2.out
            rw [if_pos hv] at hT3
            have HT3 := Lib.hid hT3; clear hT3 HT2 hv
            go_wp2
            go_ret
            exact ⟨ret_bool (HS.out.trans HT3.out).symm, rfl⟩
          · have hb : (v == anc) = false := by simp [hv]
            have hT3 := HT2.out
            rw [if_neg hv] at hT3
            have HT3 := Lib.hid hT3; clear hT3 HT2 hv
            go_wp2
            go_round
            case rel => exact ⟨k + 1, v, by omega, by go_num, rfl, HT3⟩
            case measure => simp [intOf]; omega
      · have hT := HT.out
        rw [show ps.length - k = 0 by omega, withinTo] at hT
        have HT2 := Lib.hid hT; clear hT HT
        go_wp2
        go_ret
        exact ⟨ret_bool (HS.out.trans HT2.out).symm, rfl⟩
end Go.Proofs.Ytdcdbopcijjkbaa
