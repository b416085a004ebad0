/- SteppingImplies: the walk. -/
import Derived.Test.YtdcdbopcijjkbaaAwake
import Derived.Deep.RegionHeld3
import Derived.Deep.DeepCutAuto
namespace Go.Proofs.Ytdcdbopcijjkbaa
open Go.RowKit

/-- what contexts does, whatever the slice -/
def IsRow (w : World) (v : Value) (zs : List Int) (n : Nat) : Prop :=
  (∀ i, -9223372036854775808 ≤ zs.getD i 0 ∧ zs.getD i 0 ≤ 9223372036854775807) ∧ ((∃ a cap, v = .slice a 0 cap ∧ n = 0) ∨ ∃ b off cap, v = .slice (some ⟨b, off, none⟩) n cap ∧ n ≤ cap ∧ cap ≤ maxLen ∧ zs.length = cap ∧ ∀ i, i < cap → w.cell? ⟨b, off + i, none⟩ = some (.int .i64 (zs.getD i 0)))
theorem IsRow.below {w w' : World} {v : Value} {zs : List Int} {n : Nat} (h : IsRow w v zs n) (hb : Below w.heap.size w w') : IsRow w' v zs n := by
  refine ⟨h.1, h.2.imp id ?_⟩
  rintro ⟨b, off, cap, rfl, h1, h2, h3, h4⟩
  exact ⟨b, off, cap, rfl, h1, h2, h3, fun i hi => (hb.cell (p := ⟨b, off + i, none⟩) (World.block_lt_of_cell? _ _ (h4 i hi))).trans (h4 i hi)⟩
theorem contexts_any (w : World) (v : Value) (zs : List Int) (n : Nat) (h : IsRow w v zs n) : Calls Try.prog 6 #[v] w (CtxPost w (psOf zs (min n 8))) := by
  rcases h.2 with ⟨a, cap, rfl, rfl⟩ | ⟨b, off, cap, rfl, h1, h2, h3, h4⟩
  · exact contexts_nil zs a cap w
  · exact contexts_some zs b off n cap w h1 h2 h3 h4 h.1

abbrev I64 (x : Int) : Prop := -9223372036854775808 ≤ x ∧ x ≤ 9223372036854775807

/-- the state of a statement behind the making of the contexts: the boxes of its two identities and of the debug information -/
structure LawAt (w W : World) (a0 a1 a2 b0 b1 b2 : Int) (Bd bp bc cp : Nat) (ps : List Int) : Prop where
  below : Below w.heap.size w W
  a : Holds W w.heap.size #[.int .i64 a0, .int .i64 a1, .int .i64 a2]
  b : Holds W (w.heap.size + 1) #[.int .i64 b0, .int .i64 b1, .int .i64 b2]
  d : Holds W Bd #[.int .i64 0, .int .i64 0, .slice none 0 0, .slice none 0 0, .slice (some ⟨bp, 0, none⟩) 2 2]
  dbg : IsDbg W bp 2 bc cp ps
  pos : 0 < ps.length
theorem LawAt.next {w W W' : World} {a0 a1 a2 b0 b1 b2 : Int} {Bd bp bc cp : Nat} {ps : List Int} (h : LawAt w W a0 a1 a2 b0 b1 b2 Bd bp bc cp ps) (hb : Below W.heap.size W W') : LawAt w W' a0 a1 a2 b0 b1 b2 Bd bp bc cp ps :=
  ⟨h.below.trans (hb.mono h.below.size), h.a.below hb, h.b.below hb, h.d.below hb, h.dbg.below (by decide) h.pos hb, h.pos⟩
theorem LawAt.drew {w W : World} {a0 a1 a2 b0 b1 b2 : Int} {Bd bp bc cp : Nat} {ps : List Int} (h : LawAt w W a0 a1 a2 b0 b1 b2 Bd bp bc cp ps) : LawAt w W.drew a0 a1 a2 b0 b1 b2 Bd bp bc cp ps :=
  h.next (Below.refl _ _).drew
theorem LawAt.alloc {w W : World} {a0 a1 a2 b0 b1 b2 : Int} {Bd bp bc cp : Nat} {ps : List Int} (h : LawAt w W a0 a1 a2 b0 b1 b2 Bd bp bc cp ps) (o : Obj) : LawAt w (W.alloc o) a0 a1 a2 b0 b1 b2 Bd bp bc cp ps :=
  h.next ((Below.refl _ _).alloc (Nat.le_refl _) o)
theorem law_start {w w1 : World} {a0 a1 a2 b0 b1 b2 : Int} {bp bc cp : Nat} {ps : List Int} (hd : IsDbg w1 bp 2 bc cp ps) (hp : 0 < ps.length)
    (hb : Below ((w.alloc (.cells #[.int .i64 a0, .int .i64 a1, .int .i64 a2] 24)).alloc (.cells #[.int .i64 b0, .int .i64 b1, .int .i64 b2] 24)).heap.size ((w.alloc (.cells #[.int .i64 a0, .int .i64 a1, .int .i64 a2] 24)).alloc (.cells #[.int .i64 b0, .int .i64 b1, .int .i64 b2] 24)) w1) (t : TypeId) :
    LawAt w (w1.alloc (.cells #[.int .i64 0, .int .i64 0, .slice none 0 0, .slice none 0 0, .slice (some ⟨bp, 0, none⟩) 2 2] t)) a0 a1 a2 b0 b1 b2 w1.heap.size bp bc cp ps := by
  have ha := (((Holds.last w #[.int .i64 a0, .int .i64 a1, .int .i64 a2] 24 (0, 0)).later (.cells #[.int .i64 b0, .int .i64 b1, .int .i64 b2] 24)).below hb).later (.cells #[.int .i64 0, .int .i64 0, .slice none 0 0, .slice none 0 0, .slice (some ⟨bp, 0, none⟩) 2 2] t)
  have hb' := ((Holds.last (w.alloc (.cells #[.int .i64 a0, .int .i64 a1, .int .i64 a2] 24)) #[.int .i64 b0, .int .i64 b1, .int .i64 b2] 24 (0, 0)).below hb).later (.cells #[.int .i64 0, .int .i64 0, .slice none 0 0, .slice none 0 0, .slice (some ⟨bp, 0, none⟩) 2 2] t)
  have hbel : Below w.heap.size w w1 := (((Below.refl _ _).alloc (Nat.le_refl _) _).alloc (by simp) _).trans (hb.mono (by simp; omega))
  exact ⟨hbel.alloc hbel.size _, ha, by simpa using hb', Holds.last _ _ _ _, hd.below (by decide) hp ((Below.refl _ _).alloc (Nat.le_refl _) _), hp⟩

abbrev SLaw (w : World) (a0 a1 a2 b0 b1 b2 : Int) (Bd bp bc cp : Nat) (ps : List Int) (w' : World) : Prop :=
  LawAt w w' a0 a1 a2 b0 b1 b2 Bd bp bc cp ps ∧ (∀ i, w'.cell? ⟨w.heap.size, i, none⟩ = (#[.int .i64 a0, .int .i64 a1, .int .i64 a2] : Array Value)[i]?) ∧ (∀ i, w'.cell? ⟨w.heap.size + 1, i, none⟩ = (#[.int .i64 b0, .int .i64 b1, .int .i64 b2] : Array Value)[i]?) ∧ (∀ i, w'.cell? ⟨Bd, i, none⟩ = (#[.int .i64 0, .int .i64 0, .slice none 0 0, .slice none 0 0, .slice (some ⟨bp, 0, none⟩) 2 2] : Array Value)[i]?)
theorem LawAt.S {w W : World} {a0 a1 a2 b0 b1 b2 : Int} {Bd bp bc cp : Nat} {ps : List Int} (h : LawAt w W a0 a1 a2 b0 b1 b2 Bd bp bc cp ps) : SLaw w a0 a1 a2 b0 b1 b2 Bd bp bc cp ps W :=
  ⟨h, h.a.2, h.b.2, h.d.2⟩

/-- the state in a round: the two identities that are compared lie in a box of their own -/
structure PairAt (w W : World) (a0 a1 a2 b0 b1 b2 : Int) (Bd bp bc cp : Nat) (ps : List Int) (Bx : Nat) (cs : Array Value) (Bq : Nat) (p0 p1 p2 q0 q1 q2 : Int) : Prop where
  law : LawAt w W a0 a1 a2 b0 b1 b2 Bd bp bc cp ps
  xs : Holds W Bx cs
  q : Holds W Bq #[.int .i64 p0, .int .i64 p1, .int .i64 p2, .int .i64 q0, .int .i64 q1, .int .i64 q2]
abbrev SPair (w : World) (a0 a1 a2 b0 b1 b2 : Int) (Bd bp bc cp : Nat) (ps : List Int) (Bx : Nat) (cs : Array Value) (Bq : Nat) (p0 p1 p2 q0 q1 q2 : Int) (w' : World) : Prop :=
  PairAt w w' a0 a1 a2 b0 b1 b2 Bd bp bc cp ps Bx cs Bq p0 p1 p2 q0 q1 q2 ∧ (∀ i, w'.cell? ⟨Bd, i, none⟩ = (#[.int .i64 0, .int .i64 0, .slice none 0 0, .slice none 0 0, .slice (some ⟨bp, 0, none⟩) 2 2] : Array Value)[i]?) ∧ (∀ i, w'.cell? ⟨Bq, i, none⟩ = (#[.int .i64 p0, .int .i64 p1, .int .i64 p2, .int .i64 q0, .int .i64 q1, .int .i64 q2] : Array Value)[i]?)
theorem PairAt.next {w W W' : World} {a0 a1 a2 b0 b1 b2 : Int} {Bd bp bc cp : Nat} {ps : List Int} {Bx : Nat} {cs : Array Value} {Bq : Nat} {p0 p1 p2 q0 q1 q2 : Int} (h : PairAt w W a0 a1 a2 b0 b1 b2 Bd bp bc cp ps Bx cs Bq p0 p1 p2 q0 q1 q2) (hb : Below W.heap.size W W') : PairAt w W' a0 a1 a2 b0 b1 b2 Bd bp bc cp ps Bx cs Bq p0 p1 p2 q0 q1 q2 :=
  ⟨h.law.next hb, h.xs.below hb, h.q.below hb⟩
theorem PairAt.S {w W : World} {a0 a1 a2 b0 b1 b2 : Int} {Bd bp bc cp : Nat} {ps : List Int} {Bx : Nat} {cs : Array Value} {Bq : Nat} {p0 p1 p2 q0 q1 q2 : Int} (h : PairAt w W a0 a1 a2 b0 b1 b2 Bd bp bc cp ps Bx cs Bq p0 p1 p2 q0 q1 q2) : SPair w a0 a1 a2 b0 b1 b2 Bd bp bc cp ps Bx cs Bq p0 p1 p2 q0 q1 q2 W := ⟨h, h.law.d.2, h.q.2⟩

theorem stops1 (f : Int → Int → Int → Int → Int → Int → Bool) (s0 s1 s2 n0 n1 n2 : Int) : stopsS f 1 s0 s1 s2 n0 n1 n2 = true := by simp [stopsS]
theorem stops2 (f : Int → Int → Int → Int → Int → Int → Bool) (s0 s1 s2 n0 n1 n2 : Int) : stopsS f 2 s0 s1 s2 n0 n1 n2 = !f n0 n1 n2 s0 s1 s2 := by simp [stopsS]
theorem stops3 (f : Int → Int → Int → Int → Int → Int → Bool) (s0 s1 s2 n0 n1 n2 : Int) : stopsS f 3 s0 s1 s2 n0 n1 n2 = f s0 s1 s2 n0 n1 n2 := by simp [stopsS]

abbrev xs12 (a0 a1 a2 b0 b1 b2 : Int) : Array Value := #[.int .i64 a0, .int .i64 a1, .int .i64 a2, .int .i64 b0, .int .i64 b1, .int .i64 b2, .int .i64 (a0 % 3), .int .i64 (a1 % 3), .int .i64 (a2 % 9), .int .i64 (b0 % 3), .int .i64 (b1 % 3), .int .i64 (b2 % 9)]

set_option maxHeartbeats 2000000 in
theorem implies_any (w : World) (v : Value) (zs : List Int) (n : Nat) (h : IsRow w v zs n) (a0 a1 a2 b0 b1 b2 : Int) (ha0 : I64 a0) (ha1 : I64 a1) (ha2 : I64 a2) (hb0 : I64 b0) (hb1 : I64 b1) (hb2 : I64 b2) :
    Calls Try.prog 5 #[v, idV a0 a1 a2, idV b0 b1 b2] w fun e w' => e = .returned (.bool true) ∧ Below w.heap.size w w' := by
  have HR := Lib.hid h; clear h
  obtain ⟨ha01, ha02⟩ := ha0
  obtain ⟨ha11, ha12⟩ := ha1
  obtain ⟨ha21, ha22⟩ := ha2
  obtain ⟨hb01, hb02⟩ := hb0
  obtain ⟨hb11, hb12⟩ := hb1
  obtain ⟨hb21, hb22⟩ := hb2
  go_enter Try.func5, Try.ntmps5
  go_wp2_with fail
  refine (contexts_any _ v zs n (HR.out.below (((Below.refl _ _).alloc (Nat.le_refl _) _).alloc (by simp) _))).mono ?_
  rintro e w1 ⟨bp, bc, cp, rfl, hd, hb, _, _⟩
  have hg := Lib.hid (good_psOf zs (min n 8))
  have hl := Lib.hid (show (psOf zs (min n 8)).length ≤ 9 by rw [psOf_length]; omega)
  generalize psOf zs (min n 8) = ps at hd hg hl
  have L0 := Lib.hid (law_start (t := 29) hd hg.out.pos hb)
  clear hd hb HR
  go_upto_region 2 with fail
  generalize w1.heap.size = Bd at L0 ⊢
  generalize (w1.alloc _) = W at L0 ⊢
  have s0 := L0.out.S
  go_region_held3 (SLaw w a0 a1 a2 b0 b1 b2 Bd bp bc cp ps) (first | exact (LawAt.drew L0.out).S | exact ((‹SLaw w a0 a1 a2 b0 b1 b2 Bd bp bc cp ps _›).1.next ‹Below _ _ _›).S | exact ((‹SLaw w a0 a1 a2 b0 b1 b2 Bd bp bc cp ps _›).1.alloc _).S) (first | (go_at_call 7; refine (near_any _ _ _ _ (by omega) (by omega) (by omega) (by omega) (by omega) (by omega)).mono ?_; rintro e w' ⟨rfl, hnb⟩))
  have L1 := Lib.hid (‹SLaw w a0 a1 a2 b0 b1 b2 Bd bp bc cp ps (World.alloc _ _)›).1
  have X1 := Lib.hid (Holds.last w' (xs12 a0 a1 a2 b0 b1 b2) 31 (0, 0))
  clear s0
  generalize w'.heap.size = Bx at L1 X1 ⊢
  generalize (World.alloc w' _) = W1 at L1 X1 ⊢
  go_wp2_with fail
  go_loopw [25] (fun i wr => ∃ k : Nat, k ≤ 2 ∧ i = .int .i64 k ∧ LawAt w wr a0 a1 a2 b0 b1 b2 Bd bp bc cp ps ∧ Holds wr Bx (xs12 a0 a1 a2 b0 b1 b2)) (fun i _ => 2 - (intOf i).toNat)
  case atStart => exact ⟨0, by omega, rfl, L1.out, X1.out⟩
  case round =>
    obtain ⟨k, hk, rfl, l, x⟩ := hrel
    have L := Lib.hid l
    have X := Lib.hid x
    clear l x L1 X1
    obtain rfl | rfl | rfl : k = 0 ∨ k = 1 ∨ k = 2 := by omega
    · have cx := X.out.2
      go_upto_region 5 with fail
      have PA := Lib.hid (PairAt.mk (p0 := a0) (p1 := a1) (p2 := a2) (q0 := b0) (q1 := b1) (q2 := b2) (L.out.alloc (.cells #[.int .i64 (a0), .int .i64 (a1), .int .i64 (a2), .int .i64 (b0), .int .i64 (b1), .int .i64 (b2)] 31)) (X.out.later _) (Holds.last wr _ 31 (0, 0)))
      clear cx
      generalize wr.heap.size = Bq at PA ⊢
      generalize (World.alloc wr _) = W2 at PA ⊢
      have s0 := PA.out.S
      go_region_held3 (SPair w a0 a1 a2 b0 b1 b2 Bd bp bc cp ps Bx (xs12 a0 a1 a2 b0 b1 b2) Bq (a0) (a1) (a2) (b0) (b1) (b2)) (first | exact (PairAt.next PA.out ((Below.refl _ _).drew)).S | exact ((‹SPair w a0 a1 a2 b0 b1 b2 Bd bp bc cp ps Bx (xs12 a0 a1 a2 b0 b1 b2) Bq (a0) (a1) (a2) (b0) (b1) (b2) _›).1.next ‹Below _ _ _›).S) (first | (go_at_call 11; refine (stops_any ps bp 2 bc cp _ _ _ _ _ _ _ _ hl.out hg.out.pos (by decide) (by decide) (‹SPair w a0 a1 a2 b0 b1 b2 Bd bp bc cp ps Bx (xs12 a0 a1 a2 b0 b1 b2) Bq (a0) (a1) (a2) (b0) (b1) (b2) _›).1.law.dbg).mono ?_; rintro e w' ⟨rfl, hnb⟩))
      have PB := Lib.hid (‹SPair w a0 a1 a2 b0 b1 b2 Bd bp bc cp ps Bx (xs12 a0 a1 a2 b0 b1 b2) Bq (a0) (a1) (a2) (b0) (b1) (b2) w'›).1
      have e1 := stops1 (nestedS 2 ps) (a0) (a1) (a2) (b0) (b1) (b2)
      have e2 := stops2 (nestedS 2 ps) (a0) (a1) (a2) (b0) (b1) (b2)
      have e3 := stops3 (nestedS 2 ps) (a0) (a1) (a2) (b0) (b1) (b2)
      have hasym := nested_asymm hg.out 2 (a0 := a0) (a1 := a1) (a2 := a2) (b0 := b0) (b1 := b1) (b2 := b2)
      rw [e1, e2, e3]
      clear e1 e2 e3 s0
      obtain ⟨o, ho⟩ : ∃ o, nestedS 2 ps (a0) (a1) (a2) (b0) (b1) (b2) = o := ⟨_, rfl⟩
      obtain ⟨u, hu⟩ : ∃ u, nestedS 2 ps (b0) (b1) (b2) (a0) (a1) (a2) = u := ⟨_, rfl⟩
      have HA : Hid (o = true → u = false) := Lib.hid fun h => hu.symm.trans (hasym (ho.trans h))
      rw [ho, hu]
      clear hasym ho hu
      cases o
      · cases u
        all_goals
          go_wp2
          go_roundw
          case rel => exact ⟨0 + 1, by omega, rfl, PB.out.law, PB.out.xs⟩
          case measure => simp [intOf]
      · obtain rfl := HA.out rfl
        go_wp2
        go_roundw
        case rel => exact ⟨0 + 1, by omega, rfl, PB.out.law, PB.out.xs⟩
        case measure => simp [intOf]
    · have cx := X.out.2
      go_upto_region 5 with fail
      have PA := Lib.hid (PairAt.mk (p0 := a0 % 3) (p1 := a1 % 3) (p2 := a2 % 9) (q0 := b0 % 3) (q1 := b1 % 3) (q2 := b2 % 9) (L.out.alloc (.cells #[.int .i64 (a0 % 3), .int .i64 (a1 % 3), .int .i64 (a2 % 9), .int .i64 (b0 % 3), .int .i64 (b1 % 3), .int .i64 (b2 % 9)] 31)) (X.out.later _) (Holds.last wr _ 31 (0, 0)))
      clear cx
      generalize wr.heap.size = Bq at PA ⊢
      generalize (World.alloc wr _) = W2 at PA ⊢
      have s0 := PA.out.S
      go_region_held3 (SPair w a0 a1 a2 b0 b1 b2 Bd bp bc cp ps Bx (xs12 a0 a1 a2 b0 b1 b2) Bq (a0 % 3) (a1 % 3) (a2 % 9) (b0 % 3) (b1 % 3) (b2 % 9)) (first | exact (PairAt.next PA.out ((Below.refl _ _).drew)).S | exact ((‹SPair w a0 a1 a2 b0 b1 b2 Bd bp bc cp ps Bx (xs12 a0 a1 a2 b0 b1 b2) Bq (a0 % 3) (a1 % 3) (a2 % 9) (b0 % 3) (b1 % 3) (b2 % 9) _›).1.next ‹Below _ _ _›).S) (first | (go_at_call 11; refine (stops_any ps bp 2 bc cp _ _ _ _ _ _ _ _ hl.out hg.out.pos (by decide) (by decide) (‹SPair w a0 a1 a2 b0 b1 b2 Bd bp bc cp ps Bx (xs12 a0 a1 a2 b0 b1 b2) Bq (a0 % 3) (a1 % 3) (a2 % 9) (b0 % 3) (b1 % 3) (b2 % 9) _›).1.law.dbg).mono ?_; rintro e w' ⟨rfl, hnb⟩))
      have PB := Lib.hid (‹SPair w a0 a1 a2 b0 b1 b2 Bd bp bc cp ps Bx (xs12 a0 a1 a2 b0 b1 b2) Bq (a0 % 3) (a1 % 3) (a2 % 9) (b0 % 3) (b1 % 3) (b2 % 9) w'›).1
      have e1 := stops1 (nestedS 2 ps) (a0 % 3) (a1 % 3) (a2 % 9) (b0 % 3) (b1 % 3) (b2 % 9)
      have e2 := stops2 (nestedS 2 ps) (a0 % 3) (a1 % 3) (a2 % 9) (b0 % 3) (b1 % 3) (b2 % 9)
      have e3 := stops3 (nestedS 2 ps) (a0 % 3) (a1 % 3) (a2 % 9) (b0 % 3) (b1 % 3) (b2 % 9)
      have hasym := nested_asymm hg.out 2 (a0 := a0 % 3) (a1 := a1 % 3) (a2 := a2 % 9) (b0 := b0 % 3) (b1 := b1 % 3) (b2 := b2 % 9)
      rw [e1, e2, e3]
      clear e1 e2 e3 s0
      obtain ⟨o, ho⟩ : ∃ o, nestedS 2 ps (a0 % 3) (a1 % 3) (a2 % 9) (b0 % 3) (b1 % 3) (b2 % 9) = o := ⟨_, rfl⟩
      obtain ⟨u, hu⟩ : ∃ u, nestedS 2 ps (b0 % 3) (b1 % 3) (b2 % 9) (a0 % 3) (a1 % 3) (a2 % 9) = u := ⟨_, rfl⟩
      have HA : Hid (o = true → u = false) := Lib.hid fun h => hu.symm.trans (hasym (ho.trans h))
      rw [ho, hu]
      clear hasym ho hu
      cases o
      · cases u
        all_goals
          go_wp2
          go_roundw
          case rel => exact ⟨1 + 1, by omega, rfl, PB.out.law, PB.out.xs⟩
          case measure => simp [intOf]
      · obtain rfl := HA.out rfl
        go_wp2
        go_roundw
        case rel => exact ⟨1 + 1, by omega, rfl, PB.out.law, PB.out.xs⟩
        case measure => simp [intOf]
    · go_wp2_with fail
      refine (awake_any _).mono ?_
      rintro e w' ⟨rfl, hb⟩
      go_wp2
      go_ret
      exact ⟨rfl, L.out.below.trans (hb.mono L.out.below.size)⟩
end Go.Proofs.Ytdcdbopcijjkbaa
