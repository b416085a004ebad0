/- The contracts of below, Nested and Stops of the reference and of the program. Conditions: the bounds stated in each theorem. -/
import Derived.Test.YtdcdbopcijjkbaaWalks
namespace Go.Proofs.Ytdcdbopcijjkbaa
open Go.RowKit

def belowTo (ps : List Int) (old : Int) : Nat → Int → Bool
  | 0, _ => false
  | k + 1, c => if 0 < c ∧ c < ps.length then (if ps.getD c.toNat 0 = old then true else belowTo ps old k (ps.getD c.toNat 0)) else false
def belowS (np : Nat) (ps : List Int) (f old c : Int) : Bool := if f < 0 ∨ np ≤ f then false else belowTo ps old ps.length c

theorem IsDbg.bp_lt {w : World} {bp np bc cap : Nat} {ps : List Int} (h : IsDbg w bp np bc cap ps) (hn : 0 < np) : bp < w.heap.size := by
  have := h.procs 0 hn
  unfold World.cell? at this
  rcases Nat.lt_or_ge bp w.heap.size with h' | h'
  · exact h'
  · rw [Array.getElem?_eq_none h'] at this; cases this
theorem IsDbg.bc_lt {w : World} {bp np bc cap : Nat} {ps : List Int} (h : IsDbg w bp np bc cap ps) (hn : 0 < ps.length) : bc < w.heap.size := by
  have := h.ctxs 0 hn
  unfold World.cell? at this
  rcases Nat.lt_or_ge bc w.heap.size with h' | h'
  · exact h'
  · rw [Array.getElem?_eq_none h'] at this; cases this
theorem IsDbg.below {w w' : World} {bp np bc cap : Nat} {ps : List Int} (h : IsDbg w bp np bc cap ps) (hn : 0 < np) (hp : 0 < ps.length) (hb : Below w.heap.size w w') : IsDbg w' bp np bc cap ps :=
  ⟨fun j hj => (hb.cell (p := ⟨bp, _, none⟩) (h.bp_lt hn)).trans (h.procs j hj), fun i hi => (hb.cell (p := ⟨bc, _, none⟩) (h.bc_lt hp)).trans (h.ctxs i hi)⟩

set_option maxHeartbeats 400000 in
theorem below_any (ps : List Int) (bp np bc cap : Nat) (f old c : Int) (w : World) (hl : ps.length ≤ 9) (hl0 : 0 < ps.length) (hn0 : 0 < np) (hn : np ≤ 2) (hd : IsDbg w bp np bc cap ps) :
    Calls Try.prog 15 #[dbgV bp np np, .int .i64 f, .int .i64 old, .int .i64 c] w fun e w' => e = .returned (.bool (belowS np ps f old c)) ∧ Below w.heap.size w w' := by
  have hbp := hd.bp_lt hn0
  have hbc := hd.bc_lt hl0
  have HD := Lib.hid hd; clear hd
  by_cases hf : f < 0 ∨ np ≤ f
  · have hS : belowS np ps f old c = false := by simp [belowS, hf]
    have HS := Lib.hid hS; clear hS
    rcases hf with hf | hf
    · go_enter Try.func15, Try.ntmps15
      go_wp2
      go_ret
      exact ⟨ret_bool HS.out.symm, (Below.refl _ _).alloc (Nat.le_refl _) _⟩
    · by_cases hf' : f < 0
      · omega
      · go_enter Try.func15, Try.ntmps15
        go_wp2
        go_ret
        exact ⟨ret_bool HS.out.symm, (Below.refl _ _).alloc (Nat.le_refl _) _⟩
  · have h1 : ¬ f < 0 := by omega
    have h2 : ¬ (np : Int) ≤ f := by omega
    have hS : belowS np ps f old c = belowTo ps old ps.length c := by simp [belowS, hf]
    have HS := Lib.hid hS; clear hS hf
    obtain ⟨j, rfl⟩ := Int.eq_ofNat_of_zero_le (show 0 ≤ f by omega)
    have hcell := HD.out.procs j (by omega)
    go_enter Try.func15, Try.ntmps15
    go_wp2
    clear hcell
    go_loop [3, 10] (fun c' i => ∃ (k : Nat) (d : Int), k ≤ ps.length ∧ i = .int .i64 k ∧ c' = .int .i64 d ∧ Hid (belowTo ps old ps.length c = belowTo ps old (ps.length - k) d)) (fun _ i => ps.length - (intOf i).toNat)
    case atStart => exact ⟨0, c, Nat.zero_le _, rfl, rfl, Lib.hid rfl⟩
    case round =>
      obtain ⟨k, d, hk, rfl, rfl, HT⟩ := hrel
      by_cases hlt : k < ps.length
      · by_cases hd : 0 < d ∧ d < ps.length
        · obtain ⟨m, rfl⟩ := Int.eq_ofNat_of_zero_le (show 0 ≤ d by omega)
          have hm : m < ps.length := by omega
          have hcell := HD.out.ctxs m hm
          have hT := HT.out
          rw [show ps.length - k = (ps.length - (k + 1)) + 1 by omega, belowTo, if_pos hd, Int.toNat_natCast] at hT
          generalize ps.getD m 0 = v at hcell hT
          have HT2 := Lib.hid hT; clear hT HT
          have h3 : 0 < (m : Int) := by omega
          have h4 : (m : Int) < ps.length := by omega
          clear hd
          by_cases hv : v = old
          · have hb : (v == old) = true := by simp [hv]
            have hT3 := HT2.out
            rw [if_pos hv] at hT3
            have HT3 := Lib.hid hT3; clear hT3 HT2 hv
            go_wp2
            go_ret
            exact ⟨ret_bool (HS.out.trans HT3.out).symm, (Below.refl _ _).alloc (Nat.le_refl _) _⟩
          · have hb : (v == old) = false := by simp [hv]
            have hT3 := HT2.out
            rw [if_neg hv] at hT3
            have HT3 := Lib.hid hT3; clear hT3 HT2 hv
            go_wp2
            go_round
            case rel => exact ⟨k + 1, v, by omega, by go_num, rfl, HT3⟩
            case measure => simp [intOf]; omega
        · have hT := HT.out
          rw [show ps.length - k = (ps.length - k - 1) + 1 by omega, belowTo, if_neg hd] at hT
          have HT2 := Lib.hid hT; clear hT HT
          by_cases hd1 : 0 < d
          · have hd2 : ¬ d < ps.length := by omega
            clear hd
            go_wp2
            go_ret
            exact ⟨ret_bool (HS.out.trans HT2.out).symm, (Below.refl _ _).alloc (Nat.le_refl _) _⟩
          · clear hd
            go_wp2
            go_ret
            exact ⟨ret_bool (HS.out.trans HT2.out).symm, (Below.refl _ _).alloc (Nat.le_refl _) _⟩
      · have hT := HT.out
        rw [show ps.length - k = 0 by omega, belowTo] at hT
        have HT2 := Lib.hid hT; clear hT HT
        go_wp2
        go_ret
        exact ⟨ret_bool (HS.out.trans HT2.out).symm, (Below.refl _ _).alloc (Nat.le_refl _) _⟩

/-- the frame a is nested in the frame b -/
def nestedS (np : Nat) (ps : List Int) (a0 a1 a2 b0 b1 b2 : Int) : Bool :=
  if a0 < b0 then true else if a0 ≠ b0 ∨ a1 ≠ b1 ∨ a1 < 0 ∨ np ≤ a1 then false else withinS ps a2 b2
def nestedR (np : Nat) (ps : List Int) (a0 a1 a2 b0 b1 b2 : Int) : Bool :=
  if a0 < b0 then true else if a0 ≠ b0 ∨ a1 ≠ b1 then false else belowS np ps a1 b2 a2
abbrev idV (a0 a1 a2 : Int) : Value := .agg #[.int .i64 a0, .int .i64 a1, .int .i64 a2]

theorem below3 (w : World) (o1 o2 o3 : Obj) (n : Nat) : Below w.heap.size w ((((w.alloc o1).alloc o2).alloc o3).drewN n) :=
  ((((Below.refl _ _).alloc (Nat.le_refl _) _).alloc (by simp) _).alloc (by simp; omega) _).trans ⟨rfl, rfl, rfl, Nat.le_refl _, fun _ _ => rfl⟩

set_option maxHeartbeats 400000 in
theorem nested_any (ps : List Int) (bp np bc cap : Nat) (a0 a1 a2 b0 b1 b2 : Int) (w : World) (hl : ps.length ≤ 9) (hl0 : 0 < ps.length) (hn0 : 0 < np) (hn : np ≤ 2) (hd : IsDbg w bp np bc cap ps) :
    Calls Try.prog 9 #[dbgV bp np np, idV a0 a1 a2, idV b0 b1 b2] w fun e w' => e = .returned (.bool (nestedS np ps a0 a1 a2 b0 b1 b2)) ∧ Below w.heap.size w w' := by
  have hbp := hd.bp_lt hn0
  have hbc := hd.bc_lt hl0
  have HD := Lib.hid hd; clear hd
  by_cases h0 : a0 < b0
  · have HS := Lib.hid (show nestedS np ps a0 a1 a2 b0 b1 b2 = true by simp [nestedS, h0])
    go_enter Try.func9, Try.ntmps9
    go_wp2
    go_ret
    exact ⟨ret_bool HS.out.symm, below3 _ _ _ _ 0⟩
  · by_cases h1 : a0 ≠ b0 ∨ a1 ≠ b1 ∨ a1 < 0 ∨ np ≤ a1
    · have HS := Lib.hid (show nestedS np ps a0 a1 a2 b0 b1 b2 = false by simp only [nestedS, if_neg h0, if_pos h1])
      by_cases c1 : a0 = b0
      · by_cases c2 : a1 = b1
        · by_cases c3 : a1 < 0
          · have e1 : (a0 != b0) = false := by simp [c1]
            have e2 : (a1 != b1) = false := by simp [c2]
            clear h1 c1 c2
            go_enter Try.func9, Try.ntmps9
            go_wp2
            go_ret
            exact ⟨ret_bool HS.out.symm, below3 _ _ _ _ 0⟩
          · have c4 : (np : Int) ≤ a1 := by omega
            have e1 : (a0 != b0) = false := by simp [c1]
            have e2 : (a1 != b1) = false := by simp [c2]
            clear h1 c1 c2
            go_enter Try.func9, Try.ntmps9
            go_wp2
            go_ret
            exact ⟨ret_bool HS.out.symm, below3 _ _ _ _ 0⟩
        · have e1 : (a0 != b0) = false := by simp [c1]
          have e2 : (a1 != b1) = true := by simp [c2]
          clear h1 c1 c2
          go_enter Try.func9, Try.ntmps9
          go_wp2
          go_ret
          exact ⟨ret_bool HS.out.symm, below3 _ _ _ _ 0⟩
      · have e1 : (a0 != b0) = true := by simp [c1]
        clear h1 c1
        go_enter Try.func9, Try.ntmps9
        go_wp2
        go_ret
        exact ⟨ret_bool HS.out.symm, below3 _ _ _ _ 0⟩
    · have HS := Lib.hid (show nestedS np ps a0 a1 a2 b0 b1 b2 = withinS ps a2 b2 by simp only [nestedS, if_neg h0, if_neg h1])
      have e1 : (a0 != b0) = false := by simp; omega
      have e2 : (a1 != b1) = false := by simp; omega
      have e3 : ¬ a1 < 0 := by omega
      have e4 : ¬ (np : Int) ≤ a1 := by omega
      clear h1
      obtain ⟨j, rfl⟩ := Int.eq_ofNat_of_zero_le (show 0 ≤ a1 by omega)
      have hcell := HD.out.procs j (by omega)
      have e5 : (j : Int) < np := by omega
      go_enter Try.func9, Try.ntmps9
      go_wp2
      have e6 : (0 : Int) ≤ j := by omega
      have q1 : bp < w.heap.size + 1 := by omega
      have q2 : bp < w.heap.size + 1 + 1 := by omega
      go_quiet ((go_at_call 14; refine Calls.quiet_of_same ((within_any ps _ _ _ _ _ hl ?_).mono (fun e w' h => ⟨h.1, h.2.symm⟩)); exact fun i hi => (Below.cell (B := w.heap.size) (below3 _ _ _ _ _) hbc).trans (HD.out.ctxs i hi)))
      go_wp2
      go_ret
      exact ⟨ret_bool HS.out.symm, below3 _ _ _ _ _⟩

set_option maxHeartbeats 400000 in
theorem nestedR_any (ps : List Int) (bp np bc cap : Nat) (a0 a1 a2 b0 b1 b2 : Int) (w : World) (hl : ps.length ≤ 9) (hl0 : 0 < ps.length) (hn0 : 0 < np) (hn : np ≤ 2) (hd : IsDbg w bp np bc cap ps) :
    Calls Try.prog 10 #[dbgV bp np np, idV a0 a1 a2, idV b0 b1 b2] w fun e w' => e = .returned (.bool (nestedR np ps a0 a1 a2 b0 b1 b2)) ∧ Below w.heap.size w w' := by
  have hbp := hd.bp_lt hn0
  have hbc := hd.bc_lt hl0
  have HD := Lib.hid hd; clear hd
  by_cases h0 : a0 < b0
  · have HS := Lib.hid (show nestedR np ps a0 a1 a2 b0 b1 b2 = true by simp [nestedR, h0])
    go_enter Try.func10, Try.ntmps10
    go_wp2
    go_ret
    exact ⟨ret_bool HS.out.symm, below3 _ _ _ _ 0⟩
  · by_cases c1 : a0 = b0
    · have e1 : (a0 == b0) = true := by simp [c1]
      by_cases c2 : a1 = b1
      · have e2 : (a1 == b1) = true := by simp [c2]
        have HS := Lib.hid (show nestedR np ps a0 a1 a2 b0 b1 b2 = belowS np ps a1 b2 a2 by simp [nestedR, h0, c1, c2])
        clear c1 c2
        go_enter Try.func10, Try.ntmps10
        go_wp2_with fail
        refine (below_any ps bp np bc cap _ _ _ _ hl hl0 hn0 hn (HD.out.below hn0 hl0 (below3 _ _ _ _ 0))).mono ?_
        rintro e w' ⟨rfl, hb⟩
        go_wp2
        go_ret
        exact ⟨ret_bool HS.out.symm, (below3 _ _ _ _ 0).trans (hb.mono (by simp; omega))⟩
      · have e2 : (a1 == b1) = false := by simp [c2]
        have HS := Lib.hid (show nestedR np ps a0 a1 a2 b0 b1 b2 = false by simp [nestedR, h0, c2])
        clear c1 c2
        go_enter Try.func10, Try.ntmps10
        go_wp2
        go_ret
        exact ⟨ret_bool HS.out.symm, below3 _ _ _ _ 0⟩
    · have e1 : (a0 == b0) = false := by simp [c1]
      have HS := Lib.hid (show nestedR np ps a0 a1 a2 b0 b1 b2 = false by simp [nestedR, h0, c1])
      clear c1
      go_enter Try.func10, Try.ntmps10
      go_wp2
      go_ret
      exact ⟨ret_bool HS.out.symm, below3 _ _ _ _ 0⟩
end Go.Proofs.Ytdcdbopcijjkbaa
