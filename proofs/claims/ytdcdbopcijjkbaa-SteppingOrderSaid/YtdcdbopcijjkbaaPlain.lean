/- Plain facts: to be nested is a strict order, the program's test equals the reference's, for contexts whose parents lie ahead of them. No program in sight. -/
import Derived.Test.YtdcdbopcijjkbaaWalksC
namespace Go.Proofs.Ytdcdbopcijjkbaa

/-- each context but the first has its parent ahead of it; the first has none -/
structure Good (ps : List Int) : Prop where
  pos : 0 < ps.length
  zero : ps.getD 0 0 = -1
  ahead : ∀ i, 0 < i → i < ps.length → 0 ≤ ps.getD i 0 ∧ ps.getD i 0 < i

theorem good_psOf (zs : List Int) (k : Nat) : Good (psOf zs k) := by
  refine ⟨by simp [psOf], rfl, fun i hi hl => ?_⟩
  rw [psOf_length] at hl
  obtain ⟨j, rfl⟩ : ∃ j, i = j + 1 := ⟨i - 1, by omega⟩
  have : (psOf zs k).getD (j + 1) 0 = parAt zs j := by
    simp [psOf, List.getElem?_range (show j < k by omega)]
  rw [this, parAt]
  exact ⟨Int.emod_nonneg _ (by omega), by have := Int.emod_lt_of_pos (zs.getD j 0) (show (0 : Int) < (j : Int) + 1 by omega); push_cast; exact this⟩

theorem Good.step {ps : List Int} (g : Good ps) {c : Int} (h0 : 0 ≤ c) (hl : c < ps.length) : (c = 0 ∧ ps.getD c.toNat 0 = -1) ∨ (0 < c ∧ 0 ≤ ps.getD c.toNat 0 ∧ ps.getD c.toNat 0 < c) := by
  obtain ⟨i, rfl⟩ := Int.eq_ofNat_of_zero_le h0
  rw [Int.toNat_natCast]
  rcases Nat.eq_zero_or_pos i with rfl | hi
  · exact .inl ⟨rfl, g.zero⟩
  · exact .inr ⟨by omega, g.ahead i hi (by omega)⟩

theorem within_neg (ps : List Int) (a : Int) (k : Nat) (c : Int) (h : c < 0) : withinTo ps a k c = false := by
  cases k with
  | zero => rfl
  | succ k => rw [withinTo, if_pos (.inl h)]

theorem within_lt {ps : List Int} (g : Good ps) {a : Int} (ha : 0 ≤ a) : ∀ (k : Nat) (c : Int), withinTo ps a k c = true → a < c := by
  intro k
  induction k with
  | zero => intro c h; cases h
  | succ k ih =>
    intro c h
    rw [withinTo] at h
    split at h
    · cases h
    · rename_i hr
      rcases g.step (show 0 ≤ c by omega) (by omega) with ⟨h0, h1⟩ | ⟨h0, h1, h2⟩
      · rw [h1] at h
        rw [if_neg (by omega), within_neg _ _ _ _ (by omega)] at h
        cases h
      · split at h
        · omega
        · have := ih _ h; omega

theorem within_more (ps : List Int) (a : Int) : ∀ (k : Nat) (c : Int), withinTo ps a k c = true → withinTo ps a (k + 1) c = true := by
  intro k
  induction k with
  | zero => intro c h; cases h
  | succ k ih =>
    intro c h
    rw [withinTo] at h ⊢
    split at h
    · cases h
    · rename_i hr
      rw [if_neg hr]
      split at h
      · rename_i he; rw [if_pos he]
      · rename_i he; rw [if_neg he]; exact ih _ h

theorem within_add (ps : List Int) (a : Int) (k m : Nat) (c : Int) (h : withinTo ps a k c = true) : withinTo ps a (k + m) c = true := by
  induction m with
  | zero => exact h
  | succ m ih => exact within_more _ _ _ _ ih

theorem within_enough {ps : List Int} (g : Good ps) (a : Int) : ∀ (k k' : Nat) (c : Int), c < k → c < k' → withinTo ps a k c = withinTo ps a k' c := by
  intro k
  induction k with
  | zero => intro k' c h _; rw [within_neg _ _ _ _ (by omega), within_neg _ _ _ _ (by omega)]
  | succ k ih =>
    intro k' c h h'
    cases k' with
    | zero => rw [within_neg _ _ _ _ (by omega), within_neg _ _ _ _ (by omega)]
    | succ k' =>
      rw [withinTo, withinTo]
      split
      · rfl
      · rename_i hr
        split
        · rfl
        · rcases g.step (show 0 ≤ c by omega) (by omega) with ⟨h0, h1⟩ | ⟨h0, h1, h2⟩
          · rw [h1, within_neg _ _ _ _ (by omega), within_neg _ _ _ _ (by omega)]
          · exact ih k' _ (by omega) (by omega)

theorem within_trans (ps : List Int) (a b : Int) (m : Nat) (hb : withinTo ps b m a = true) : ∀ (k : Nat) (c : Int), withinTo ps a k c = true → withinTo ps b (k + m) c = true := by
  intro k
  induction k with
  | zero => intro c h; cases h
  | succ k ih =>
    intro c h
    rw [show k + 1 + m = (k + m) + 1 by omega]
    rw [withinTo] at h ⊢
    split at h
    · cases h
    · rename_i hr
      rw [if_neg hr]
      split
      · rfl
      · split at h
        · rename_i he; rw [he, show k + m = m + k by omega]; exact within_add _ _ _ _ _ hb
        · exact ih _ h

theorem withinS_lt {ps : List Int} (g : Good ps) {c a : Int} (h : withinS ps c a = true) : a < c := by
  unfold withinS at h
  split at h
  · cases h
  · exact within_lt g (by omega) _ _ h

theorem withinS_trans {ps : List Int} (g : Good ps) {a b c : Int} (h : withinS ps a b = true) (h' : withinS ps b c = true) : withinS ps a c = true := by
  unfold withinS at *
  split at h
  · cases h
  · split at h'
    · cases h'
    · rename_i h1 h2
      rw [if_neg h2]
      have ht := within_trans ps b c _ h' _ _ h
      by_cases hl : a < ps.length
      · rw [within_enough g c ps.length (ps.length + ps.length) a (by omega) (by omega)]; exact ht
      · exfalso
        have hp := g.pos
        obtain ⟨n, hn⟩ : ∃ n, ps.length = n + 1 := ⟨ps.length - 1, by omega⟩
        rw [hn, withinTo, if_pos (by omega)] at h
        cases h

theorem below_within {ps : List Int} (g : Good ps) (a : Int) (ha : 0 ≤ a) : ∀ (k : Nat) (c : Int), belowTo ps a k c = withinTo ps a k c := by
  intro k
  induction k with
  | zero => intro c; rfl
  | succ k ih =>
    intro c
    rw [belowTo, withinTo]
    by_cases hr : c < 0 ∨ ps.length ≤ c
    · rw [if_pos hr, if_neg (by omega)]
    · rw [if_neg hr]
      rcases g.step (show 0 ≤ c by omega) (by omega) with ⟨h0, h1⟩ | ⟨h0, h1, h2⟩
      · rw [if_neg (by omega), h1, if_neg (by omega), within_neg _ _ _ _ (by omega)]
      · rw [if_pos ⟨h0, by omega⟩, ih]

theorem below_out {ps : List Int} (g : Good ps) (a : Int) (ha : a < 0 ∨ ps.length ≤ a) : ∀ (k : Nat) (c : Int), belowTo ps a k c = false := by
  intro k
  induction k with
  | zero => intro c; rfl
  | succ k ih =>
    intro c
    rw [belowTo]
    split
    · rename_i hr
      rcases g.step (show 0 ≤ c by omega) (by omega) with ⟨h0, h1⟩ | ⟨h0, h1, h2⟩
      · omega
      · rw [if_neg (by omega), ih]
    · rfl

theorem nested_eq {ps : List Int} (g : Good ps) (np : Nat) (a0 a1 a2 b0 b1 b2 : Int) : nestedS np ps a0 a1 a2 b0 b1 b2 = nestedR np ps a0 a1 a2 b0 b1 b2 := by
  unfold nestedS nestedR belowS withinS
  split
  · rfl
  · by_cases h1 : a0 ≠ b0 ∨ a1 ≠ b1
    · rw [if_pos h1, if_pos (by omega)]
    · rw [if_neg h1]
      by_cases h2 : a1 < 0 ∨ np ≤ a1
      · rw [if_pos h2, if_pos (by omega)]
      · rw [if_neg h2, if_neg (by omega)]
        split
        · rename_i h; rw [below_out g _ h]
        · rw [below_within g _ (by omega)]

theorem nested_irrefl {ps : List Int} (g : Good ps) (np : Nat) (a0 a1 a2 : Int) : nestedS np ps a0 a1 a2 a0 a1 a2 = false := by
  unfold nestedS
  rw [if_neg (by omega)]
  split
  · rfl
  · cases h : withinS ps a2 a2 with
    | false => rfl
    | true => have := withinS_lt g h; omega

theorem nested_asymm {ps : List Int} (g : Good ps) (np : Nat) {a0 a1 a2 b0 b1 b2 : Int} (h : nestedS np ps a0 a1 a2 b0 b1 b2 = true) : nestedS np ps b0 b1 b2 a0 a1 a2 = false := by
  unfold nestedS at *
  split at h
  · rw [if_neg (by omega), if_pos (by omega)]
  · split at h
    · cases h
    · have h1 := withinS_lt g h
      rw [if_neg (by omega)]
      split
      · rfl
      · cases h' : withinS ps b2 a2 with
        | false => rfl
        | true => have := withinS_lt g h'; omega

theorem nested_trans {ps : List Int} (g : Good ps) (np : Nat) {a0 a1 a2 b0 b1 b2 c0 c1 c2 : Int} (h : nestedS np ps a0 a1 a2 b0 b1 b2 = true) (h' : nestedS np ps b0 b1 b2 c0 c1 c2 = true) : nestedS np ps a0 a1 a2 c0 c1 c2 = true := by
  unfold nestedS at *
  by_cases h1 : a0 < c0
  · rw [if_pos h1]
  · rw [if_neg h1]
    split at h
    · split at h'
      · omega
      · split at h'
        · cases h'
        · omega
    · split at h
      · cases h
      · split at h'
        · omega
        · split at h'
          · cases h'
          · rw [if_neg (by omega)]
            exact withinS_trans g h h'

theorem stops_eq {ps : List Int} (g : Good ps) (np : Nat) (kind s0 s1 s2 n0 n1 n2 : Int) : stopsS (nestedS np ps) kind s0 s1 s2 n0 n1 n2 = stopsS (nestedR np ps) kind s0 s1 s2 n0 n1 n2 := by
  unfold stopsS
  rw [nested_eq g, nested_eq g]
end Go.Proofs.Ytdcdbopcijjkbaa
