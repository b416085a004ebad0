/- SteppingCompares: the walk. -/
import Derived.Test.YtdcdbopcijjkbaaOpen
namespace Go.Proofs.Ytdcdbopcijjkbaa
open Go.RowKit

abbrev xs18 (a0 a1 a2 b0 b1 b2 : Int) : Array Value := #[.int .i64 a0, .int .i64 a1, .int .i64 a2, .int .i64 b0, .int .i64 b1, .int .i64 b2, .int .i64 (a0 % 3), .int .i64 (a1 % 3), .int .i64 (a2 % 9), .int .i64 (b0 % 3), .int .i64 (b1 % 3), .int .i64 (b2 % 9), .int .i64 (b0 % 3), .int .i64 (b1 % 3), .int .i64 (b2 % 9), .int .i64 (a0 % 3), .int .i64 (a1 % 3), .int .i64 (a2 % 9)]

/-- the state in an inner round: the pair and the two kinds -/
structure KindAt (w W : World) (a0 a1 a2 b0 b1 b2 : Int) (Bd bp bc cp : Nat) (ps : List Int) (Bx : Nat) (cs : Array Value) (Bq : Nat) (p0 p1 p2 q0 q1 q2 : Int) (Bk : Nat) (k0 k1 : Int) : Prop where
  pair : PairAt w W a0 a1 a2 b0 b1 b2 Bd bp bc cp ps Bx cs Bq p0 p1 p2 q0 q1 q2
  ks : Holds W Bk #[.int .i64 k0, .int .i64 k1]
abbrev SKind (w : World) (a0 a1 a2 b0 b1 b2 : Int) (Bd bp bc cp : Nat) (ps : List Int) (Bx : Nat) (cs : Array Value) (Bq : Nat) (p0 p1 p2 q0 q1 q2 : Int) (Bk : Nat) (k0 k1 : Int) (w' : World) : Prop :=
  KindAt w w' a0 a1 a2 b0 b1 b2 Bd bp bc cp ps Bx cs Bq p0 p1 p2 q0 q1 q2 Bk k0 k1 ∧ (∀ i, w'.cell? ⟨Bd, i, none⟩ = (#[.int .i64 0, .int .i64 0, .slice none 0 0, .slice none 0 0, .slice (some ⟨bp, 0, none⟩) 2 2] : Array Value)[i]?) ∧ (∀ i, w'.cell? ⟨Bq, i, none⟩ = (#[.int .i64 p0, .int .i64 p1, .int .i64 p2, .int .i64 q0, .int .i64 q1, .int .i64 q2] : Array Value)[i]?)
theorem KindAt.next {w W W' : World} {a0 a1 a2 b0 b1 b2 : Int} {Bd bp bc cp : Nat} {ps : List Int} {Bx : Nat} {cs : Array Value} {Bq : Nat} {p0 p1 p2 q0 q1 q2 : Int} {Bk : Nat} {k0 k1 : Int} (h : KindAt w W a0 a1 a2 b0 b1 b2 Bd bp bc cp ps Bx cs Bq p0 p1 p2 q0 q1 q2 Bk k0 k1) (hb : Below W.heap.size W W') : KindAt w W' a0 a1 a2 b0 b1 b2 Bd bp bc cp ps Bx cs Bq p0 p1 p2 q0 q1 q2 Bk k0 k1 :=
  ⟨h.pair.next hb, h.ks.below hb⟩
theorem KindAt.S {w W : World} {a0 a1 a2 b0 b1 b2 : Int} {Bd bp bc cp : Nat} {ps : List Int} {Bx : Nat} {cs : Array Value} {Bq : Nat} {p0 p1 p2 q0 q1 q2 : Int} {Bk : Nat} {k0 k1 : Int} (h : KindAt w W a0 a1 a2 b0 b1 b2 Bd bp bc cp ps Bx cs Bq p0 p1 p2 q0 q1 q2 Bk k0 k1) : SKind w a0 a1 a2 b0 b1 b2 Bd bp bc cp ps Bx cs Bq p0 p1 p2 q0 q1 q2 Bk k0 k1 W := ⟨h, h.pair.law.d.2, h.pair.q.2⟩

theorem nestedR_same (ps : List Int) (bp np bc cap : Nat) (a0 a1 a2 b0 b1 b2 : Int) (w : World) (g : Good ps) (hl : ps.length ≤ 9) (hn0 : 0 < np) (hn : np ≤ 2) (hd : IsDbg w bp np bc cap ps) :
    Calls Try.prog 10 #[dbgV bp np np, idV a0 a1 a2, idV b0 b1 b2] w fun e w' => e = .returned (.bool (nestedS np ps a0 a1 a2 b0 b1 b2)) ∧ Below w.heap.size w w' := by
  rw [nested_eq g]; exact nestedR_any ps bp np bc cap a0 a1 a2 b0 b1 b2 w hl g.pos hn0 hn hd
theorem stopsR_same (ps : List Int) (bp np bc cap : Nat) (kind a0 a1 a2 b0 b1 b2 : Int) (w : World) (g : Good ps) (hl : ps.length ≤ 9) (hn0 : 0 < np) (hn : np ≤ 2) (hd : IsDbg w bp np bc cap ps) :
    Calls Try.prog 12 #[dbgV bp np np, .int .i64 kind, idV a0 a1 a2, idV b0 b1 b2] w fun e w' => e = .returned (.bool (stopsS (nestedS np ps) kind a0 a1 a2 b0 b1 b2)) ∧ Below w.heap.size w w' := by
  rw [stops_eq g]; exact stopsR_any ps bp np bc cap kind a0 a1 a2 b0 b1 b2 w hl g.pos hn0 hn hd

set_option maxHeartbeats 4000000 in
theorem compares_any (w : World) (v : Value) (zs : List Int) (n : Nat) (h : IsRow w v zs n) (a0 a1 a2 b0 b1 b2 kind : Int) (ha0 : I64 a0) (ha1 : I64 a1) (ha2 : I64 a2) (hb0 : I64 b0) (hb1 : I64 b1) (hb2 : I64 b2) (hk : I64 kind) :
    Calls Try.prog 3 #[v, idV a0 a1 a2, idV b0 b1 b2, .int .i64 kind] w fun e w' => e = .returned (.bool true) ∧ Below w.heap.size w w' := by
  have HR := Lib.hid h; clear h
  obtain ⟨ha01, ha02⟩ := ha0
  obtain ⟨ha11, ha12⟩ := ha1
  obtain ⟨ha21, ha22⟩ := ha2
  obtain ⟨hb01, hb02⟩ := hb0
  obtain ⟨hb11, hb12⟩ := hb1
  obtain ⟨hb21, hb22⟩ := hb2
  obtain ⟨hk1, hk2⟩ := hk
  go_enter Try.func3, Try.ntmps3
  go_wp2_with fail
  refine (contexts_any _ v zs n (HR.out.below (((Below.refl _ _).alloc (Nat.le_refl _) _).alloc (by simp) _))).mono ?_
  rintro e w1 ⟨bp, bc, cp, rfl, hd, hb⟩
  have hg := Lib.hid (good_psOf zs (min n 8))
  have hl := Lib.hid (show (psOf zs (min n 8)).length ≤ 9 by rw [psOf_length]; omega)
  generalize psOf zs (min n 8) = ps at hd hg hl
  have L0 := Lib.hid (law_start (t := 29) hd hg.out.pos hb)
  clear hd hb HR
  go_upto_region 2 with fail
  generalize w1.heap.size = Bd at L0 ⊢
  generalize (w1.alloc _) = W at L0 ⊢
  have s0 := L0.out.S
  go_region_held3 (SLaw w a0 a1 a2 b0 b1 b2 Bd bp bc cp ps) (first | exact (LawAt.drew L0.out).S | exact ((‹SLaw w a0 a1 a2 b0 b1 b2 Bd bp bc cp ps _›).1.next ‹Below _ _ _›).S | exact ((‹SLaw w a0 a1 a2 b0 b1 b2 Bd bp bc cp ps _›).1.alloc _).S) (first | (go_at_call 7; refine (near_any _ _ _ _ (by omega) (by omega) (by omega) (by omega) (by omega) (by omega)).mono ?_; rintro e w' ⟨rfl, hnb⟩))
  have L1 := Lib.hid (‹SLaw w a0 a1 a2 b0 b1 b2 Bd bp bc cp ps (World.alloc _ _)›).1
  have X1 := Lib.hid (Holds.last w' (xs18 a0 a1 a2 b0 b1 b2) 31 (0, 0))
  clear s0
  generalize w'.heap.size = Bx at L1 X1 ⊢
  generalize (World.alloc w' _) = W1 at L1 X1 ⊢
  go_wp2_with fail
  go_loopw [31] (fun i wr => ∃ k : Nat, k ≤ 3 ∧ i = .int .i64 k ∧ LawAt w wr a0 a1 a2 b0 b1 b2 Bd bp bc cp ps ∧ Holds wr Bx (xs18 a0 a1 a2 b0 b1 b2)) (fun i _ => 3 - (intOf i).toNat)
  case atStart => exact ⟨0, by omega, rfl, L1.out, X1.out⟩
  case round =>
    obtain ⟨k, hk, rfl, l, x⟩ := hrel
    have L := Lib.hid l
    have X := Lib.hid x
    clear l x L1 X1
    obtain rfl | rfl | rfl | rfl : k = 0 ∨ k = 1 ∨ k = 2 ∨ k = 3 := by omega
    · have cx := X.out.2
      go_wp2_with (go_at_call 8; refine (mod_any _ _ _ (by omega) (by omega) (by omega) (by omega)).mono ?_; rintro e w' ⟨rfl, rfl⟩)
      have PA := PairAt.mk (p0 := a0) (p1 := a1) (p2 := a2) (q0 := b0) (q1 := b1) (q2 := b2) (L.out.alloc (.cells #[.int .i64 (a0), .int .i64 (a1), .int .i64 (a2), .int .i64 (b0), .int .i64 (b1), .int .i64 (b2)] 31)) (X.out.later _) (Holds.last wr _ 31 (0, 0))
      have KA := Lib.hid (KindAt.mk (k0 := kind) (k1 := 1 + kind % 3) (PA.next ((Below.refl _ _).alloc (Nat.le_refl _) (.cells #[.int .i64 kind, .int .i64 (1 + kind % 3)] 3))) (Holds.last _ _ 3 (0, 0)))
      clear PA cx
      have hsz : (World.alloc wr (.cells #[.int .i64 (a0), .int .i64 (a1), .int .i64 (a2), .int .i64 (b0), .int .i64 (b1), .int .i64 (b2)] 31)).heap.size = wr.heap.size + 1 := by simp
      rw [hsz] at KA
      clear hsz
      generalize wr.heap.size + 1 = Bk at KA ⊢
      generalize wr.heap.size = Bq at KA ⊢
      generalize (World.alloc (World.alloc wr _) _) = W2 at KA ⊢
      obtain ⟨wo, rfl⟩ : ∃ wo : World, wo = wr := ⟨_, rfl⟩
      go_loopw [41] (fun i wr => ∃ j : Nat, j ≤ 2 ∧ i = .int .i64 j ∧ KindAt w wr a0 a1 a2 b0 b1 b2 Bd bp bc cp ps Bx (xs18 a0 a1 a2 b0 b1 b2) Bq (a0) (a1) (a2) (b0) (b1) (b2) Bk kind (1 + kind % 3)) (fun i _ => 2 - (intOf i).toNat)
      case atStart => exact ⟨0, by omega, rfl, KA.out⟩
      case round =>
        obtain ⟨j, hj, rfl, l⟩ := hrel
        have K1 := Lib.hid l
        clear l KA
        obtain rfl | rfl | rfl : j = 0 ∨ j = 1 ∨ j = 2 := by omega
        · have ck := K1.out.ks.2
          go_upto_region 8 with fail
          clear ck
          have s0 := K1.out.S
          have e0 : (nestedS 2 ps (a0) (a1) (a2) (b0) (b1) (b2) != nestedS 2 ps (a0) (a1) (a2) (b0) (b1) (b2)) = false := bne_self_eq_false _
          have e1 : (stopsS (nestedS 2 ps) (kind) (a0) (a1) (a2) (b0) (b1) (b2) != stopsS (nestedS 2 ps) (kind) (a0) (a1) (a2) (b0) (b1) (b2)) = false := bne_self_eq_false _
          go_region_held3 (SKind w a0 a1 a2 b0 b1 b2 Bd bp bc cp ps Bx (xs18 a0 a1 a2 b0 b1 b2) Bq (a0) (a1) (a2) (b0) (b1) (b2) Bk kind (1 + kind % 3)) (first | exact (KindAt.next K1.out ((Below.refl _ _).drew)).S | exact ((‹SKind w a0 a1 a2 b0 b1 b2 Bd bp bc cp ps Bx (xs18 a0 a1 a2 b0 b1 b2) Bq (a0) (a1) (a2) (b0) (b1) (b2) Bk kind (1 + kind % 3) _›).1.next ‹Below _ _ _›).S) (first | (go_at_call 9; refine (nested_any ps bp 2 bc cp _ _ _ _ _ _ _ hl.out hg.out.pos (by decide) (by decide) (‹SKind w a0 a1 a2 b0 b1 b2 Bd bp bc cp ps Bx (xs18 a0 a1 a2 b0 b1 b2) Bq (a0) (a1) (a2) (b0) (b1) (b2) Bk kind (1 + kind % 3) _›).1.pair.law.dbg).mono ?_; rintro e w' ⟨rfl, hnb⟩) | (go_at_call 10; refine (nestedR_same ps bp 2 bc cp _ _ _ _ _ _ _ hg.out hl.out (by decide) (by decide) (‹SKind w a0 a1 a2 b0 b1 b2 Bd bp bc cp ps Bx (xs18 a0 a1 a2 b0 b1 b2) Bq (a0) (a1) (a2) (b0) (b1) (b2) Bk kind (1 + kind % 3) _›).1.pair.law.dbg).mono ?_; rintro e w' ⟨rfl, hnb⟩) | (go_at_call 11; refine (stops_any ps bp 2 bc cp _ _ _ _ _ _ _ _ hl.out hg.out.pos (by decide) (by decide) (‹SKind w a0 a1 a2 b0 b1 b2 Bd bp bc cp ps Bx (xs18 a0 a1 a2 b0 b1 b2) Bq (a0) (a1) (a2) (b0) (b1) (b2) Bk kind (1 + kind % 3) _›).1.pair.law.dbg).mono ?_; rintro e w' ⟨rfl, hnb⟩) | (go_at_call 12; refine (stopsR_same ps bp 2 bc cp _ _ _ _ _ _ _ _ hg.out hl.out (by decide) (by decide) (‹SKind w a0 a1 a2 b0 b1 b2 Bd bp bc cp ps Bx (xs18 a0 a1 a2 b0 b1 b2) Bq (a0) (a1) (a2) (b0) (b1) (b2) Bk kind (1 + kind % 3) _›).1.pair.law.dbg).mono ?_; rintro e w' ⟨rfl, hnb⟩))
          have KB := Lib.hid (‹SKind w a0 a1 a2 b0 b1 b2 Bd bp bc cp ps Bx (xs18 a0 a1 a2 b0 b1 b2) Bq (a0) (a1) (a2) (b0) (b1) (b2) Bk kind (1 + kind % 3) w'›).1
          clear s0
          go_wp2
          go_roundw
          case rel => exact ⟨0 + 1, by omega, rfl, KB.out⟩
          case measure => simp [intOf]
        · have ck := K1.out.ks.2
          go_upto_region 8 with fail
          clear ck
          have s0 := K1.out.S
          have e0 : (nestedS 2 ps (a0) (a1) (a2) (b0) (b1) (b2) != nestedS 2 ps (a0) (a1) (a2) (b0) (b1) (b2)) = false := bne_self_eq_false _
          have e1 : (stopsS (nestedS 2 ps) (1 + kind % 3) (a0) (a1) (a2) (b0) (b1) (b2) != stopsS (nestedS 2 ps) (1 + kind % 3) (a0) (a1) (a2) (b0) (b1) (b2)) = false := bne_self_eq_false _
          go_region_held3 (SKind w a0 a1 a2 b0 b1 b2 Bd bp bc cp ps Bx (xs18 a0 a1 a2 b0 b1 b2) Bq (a0) (a1) (a2) (b0) (b1) (b2) Bk kind (1 + kind % 3)) (first | exact (KindAt.next K1.out ((Below.refl _ _).drew)).S | exact ((‹SKind w a0 a1 a2 b0 b1 b2 Bd bp bc cp ps Bx (xs18 a0 a1 a2 b0 b1 b2) Bq (a0) (a1) (a2) (b0) (b1) (b2) Bk kind (1 + kind % 3) _›).1.next ‹Below _ _ _›).S) (first | (go_at_call 9; refine (nested_any ps bp 2 bc cp _ _ _ _ _ _ _ hl.out hg.out.pos (by decide) (by decide) (‹SKind w a0 a1 a2 b0 b1 b2 Bd bp bc cp ps Bx (xs18 a0 a1 a2 b0 b1 b2) Bq (a0) (a1) (a2) (b0) (b1) (b2) Bk kind (1 + kind % 3) _›).1.pair.law.dbg).mono ?_; rintro e w' ⟨rfl, hnb⟩) | (go_at_call 10; refine (nestedR_same ps bp 2 bc cp _ _ _ _ _ _ _ hg.out hl.out (by decide) (by decide) (‹SKind w a0 a1 a2 b0 b1 b2 Bd bp bc cp ps Bx (xs18 a0 a1 a2 b0 b1 b2) Bq (a0) (a1) (a2) (b0) (b1) (b2) Bk kind (1 + kind % 3) _›).1.pair.law.dbg).mono ?_; rintro e w' ⟨rfl, hnb⟩) | (go_at_call 11; refine (stops_any ps bp 2 bc cp _ _ _ _ _ _ _ _ hl.out hg.out.pos (by decide) (by decide) (‹SKind w a0 a1 a2 b0 b1 b2 Bd bp bc cp ps Bx (xs18 a0 a1 a2 b0 b1 b2) Bq (a0) (a1) (a2) (b0) (b1) (b2) Bk kind (1 + kind % 3) _›).1.pair.law.dbg).mono ?_; rintro e w' ⟨rfl, hnb⟩) | (go_at_call 12; refine (stopsR_same ps bp 2 bc cp _ _ _ _ _ _ _ _ hg.out hl.out (by decide) (by decide) (‹SKind w a0 a1 a2 b0 b1 b2 Bd bp bc cp ps Bx (xs18 a0 a1 a2 b0 b1 b2) Bq (a0) (a1) (a2) (b0) (b1) (b2) Bk kind (1 + kind % 3) _›).1.pair.law.dbg).mono ?_; rintro e w' ⟨rfl, hnb⟩))
          have KB := Lib.hid (‹SKind w a0 a1 a2 b0 b1 b2 Bd bp bc cp ps Bx (xs18 a0 a1 a2 b0 b1 b2) Bq (a0) (a1) (a2) (b0) (b1) (b2) Bk kind (1 + kind % 3) w'›).1
          clear s0
          go_wp2
          go_roundw
          case rel => exact ⟨1 + 1, by omega, rfl, KB.out⟩
          case measure => simp [intOf]
        · go_wp2
          go_roundw
          case rel => exact ⟨0 + 1, by omega, rfl, K1.out.pair.law, K1.out.pair.xs⟩
          case measure => simp [intOf]
    · have cx := X.out.2
      go_wp2_with (go_at_call 8; refine (mod_any _ _ _ (by omega) (by omega) (by omega) (by omega)).mono ?_; rintro e w' ⟨rfl, rfl⟩)
      have PA := PairAt.mk (p0 := a0 % 3) (p1 := a1 % 3) (p2 := a2 % 9) (q0 := b0 % 3) (q1 := b1 % 3) (q2 := b2 % 9) (L.out.alloc (.cells #[.int .i64 (a0 % 3), .int .i64 (a1 % 3), .int .i64 (a2 % 9), .int .i64 (b0 % 3), .int .i64 (b1 % 3), .int .i64 (b2 % 9)] 31)) (X.out.later _) (Holds.last wr _ 31 (0, 0))
      have KA := Lib.hid (KindAt.mk (k0 := kind) (k1 := 1 + kind % 3) (PA.next ((Below.refl _ _).alloc (Nat.le_refl _) (.cells #[.int .i64 kind, .int .i64 (1 + kind % 3)] 3))) (Holds.last _ _ 3 (0, 0)))
      clear PA cx
      have hsz : (World.alloc wr (.cells #[.int .i64 (a0 % 3), .int .i64 (a1 % 3), .int .i64 (a2 % 9), .int .i64 (b0 % 3), .int .i64 (b1 % 3), .int .i64 (b2 % 9)] 31)).heap.size = wr.heap.size + 1 := by simp
      rw [hsz] at KA
      clear hsz
      generalize wr.heap.size + 1 = Bk at KA ⊢
      generalize wr.heap.size = Bq at KA ⊢
      generalize (World.alloc (World.alloc wr _) _) = W2 at KA ⊢
      obtain ⟨wo, rfl⟩ : ∃ wo : World, wo = wr := ⟨_, rfl⟩
      go_loopw [41] (fun i wr => ∃ j : Nat, j ≤ 2 ∧ i = .int .i64 j ∧ KindAt w wr a0 a1 a2 b0 b1 b2 Bd bp bc cp ps Bx (xs18 a0 a1 a2 b0 b1 b2) Bq (a0 % 3) (a1 % 3) (a2 % 9) (b0 % 3) (b1 % 3) (b2 % 9) Bk kind (1 + kind % 3)) (fun i _ => 2 - (intOf i).toNat)
      case atStart => exact ⟨0, by omega, rfl, KA.out⟩
      case round =>
        obtain ⟨j, hj, rfl, l⟩ := hrel
        have K1 := Lib.hid l
        clear l KA
        obtain rfl | rfl | rfl : j = 0 ∨ j = 1 ∨ j = 2 := by omega
        · have ck := K1.out.ks.2
          go_upto_region 8 with fail
          clear ck
          have s0 := K1.out.S
          have e0 : (nestedS 2 ps (a0 % 3) (a1 % 3) (a2 % 9) (b0 % 3) (b1 % 3) (b2 % 9) != nestedS 2 ps (a0 % 3) (a1 % 3) (a2 % 9) (b0 % 3) (b1 % 3) (b2 % 9)) = false := bne_self_eq_false _
          have e1 : (stopsS (nestedS 2 ps) (kind) (a0 % 3) (a1 % 3) (a2 % 9) (b0 % 3) (b1 % 3) (b2 % 9) != stopsS (nestedS 2 ps) (kind) (a0 % 3) (a1 % 3) (a2 % 9) (b0 % 3) (b1 % 3) (b2 % 9)) = false := bne_self_eq_false _
          go_region_held3 (SKind w a0 a1 a2 b0 b1 b2 Bd bp bc cp ps Bx (xs18 a0 a1 a2 b0 b1 b2) Bq (a0 % 3) (a1 % 3) (a2 % 9) (b0 % 3) (b1 % 3) (b2 % 9) Bk kind (1 + kind % 3)) (first | exact (KindAt.next K1.out ((Below.refl _ _).drew)).S | exact ((‹SKind w a0 a1 a2 b0 b1 b2 Bd bp bc cp ps Bx (xs18 a0 a1 a2 b0 b1 b2) Bq (a0 % 3) (a1 % 3) (a2 % 9) (b0 % 3) (b1 % 3) (b2 % 9) Bk kind (1 + kind % 3) _›).1.next ‹Below _ _ _›).S) (first | (go_at_call 9; refine (nested_any ps bp 2 bc cp _ _ _ _ _ _ _ hl.out hg.out.pos (by decide) (by decide) (‹SKind w a0 a1 a2 b0 b1 b2 Bd bp bc cp ps Bx (xs18 a0 a1 a2 b0 b1 b2) Bq (a0 % 3) (a1 % 3) (a2 % 9) (b0 % 3) (b1 % 3) (b2 % 9) Bk kind (1 + kind % 3) _›).1.pair.law.dbg).mono ?_; rintro e w' ⟨rfl, hnb⟩) | (go_at_call 10; refine (nestedR_same ps bp 2 bc cp _ _ _ _ _ _ _ hg.out hl.out (by decide) (by decide) (‹SKind w a0 a1 a2 b0 b1 b2 Bd bp bc cp ps Bx (xs18 a0 a1 a2 b0 b1 b2) Bq (a0 % 3) (a1 % 3) (a2 % 9) (b0 % 3) (b1 % 3) (b2 % 9) Bk kind (1 + kind % 3) _›).1.pair.law.dbg).mono ?_; rintro e w' ⟨rfl, hnb⟩) | (go_at_call 11; refine (stops_any ps bp 2 bc cp _ _ _ _ _ _ _ _ hl.out hg.out.pos (by decide) (by decide) (‹SKind w a0 a1 a2 b0 b1 b2 Bd bp bc cp ps Bx (xs18 a0 a1 a2 b0 b1 b2) Bq (a0 % 3) (a1 % 3) (a2 % 9) (b0 % 3) (b1 % 3) (b2 % 9) Bk kind (1 + kind % 3) _›).1.pair.law.dbg).mono ?_; rintro e w' ⟨rfl, hnb⟩) | (go_at_call 12; refine (stopsR_same ps bp 2 bc cp _ _ _ _ _ _ _ _ hg.out hl.out (by decide) (by decide) (‹SKind w a0 a1 a2 b0 b1 b2 Bd bp bc cp ps Bx (xs18 a0 a1 a2 b0 b1 b2) Bq (a0 % 3) (a1 % 3) (a2 % 9) (b0 % 3) (b1 % 3) (b2 % 9) Bk kind (1 + kind % 3) _›).1.pair.law.dbg).mono ?_; rintro e w' ⟨rfl, hnb⟩))
          have KB := Lib.hid (‹SKind w a0 a1 a2 b0 b1 b2 Bd bp bc cp ps Bx (xs18 a0 a1 a2 b0 b1 b2) Bq (a0 % 3) (a1 % 3) (a2 % 9) (b0 % 3) (b1 % 3) (b2 % 9) Bk kind (1 + kind % 3) w'›).1
          clear s0
          go_wp2
          go_roundw
          case rel => exact ⟨0 + 1, by omega, rfl, KB.out⟩
          case measure => simp [intOf]
        · have ck := K1.out.ks.2
          go_upto_region 8 with fail
          clear ck
          have s0 := K1.out.S
          have e0 : (nestedS 2 ps (a0 % 3) (a1 % 3) (a2 % 9) (b0 % 3) (b1 % 3) (b2 % 9) != nestedS 2 ps (a0 % 3) (a1 % 3) (a2 % 9) (b0 % 3) (b1 % 3) (b2 % 9)) = false := bne_self_eq_false _
          have e1 : (stopsS (nestedS 2 ps) (1 + kind % 3) (a0 % 3) (a1 % 3) (a2 % 9) (b0 % 3) (b1 % 3) (b2 % 9) != stopsS (nestedS 2 ps) (1 + kind % 3) (a0 % 3) (a1 % 3) (a2 % 9) (b0 % 3) (b1 % 3) (b2 % 9)) = false := bne_self_eq_false _
          go_region_held3 (SKind w a0 a1 a2 b0 b1 b2 Bd bp bc cp ps Bx (xs18 a0 a1 a2 b0 b1 b2) Bq (a0 % 3) (a1 % 3) (a2 % 9) (b0 % 3) (b1 % 3) (b2 % 9) Bk kind (1 + kind % 3)) (first | exact (KindAt.next K1.out ((Below.refl _ _).drew)).S | exact ((‹SKind w a0 a1 a2 b0 b1 b2 Bd bp bc cp ps Bx (xs18 a0 a1 a2 b0 b1 b2) Bq (a0 % 3) (a1 % 3) (a2 % 9) (b0 % 3) (b1 % 3) (b2 % 9) Bk kind (1 + kind % 3) _›).1.next ‹Below _ _ _›).S) (first | (go_at_call 9; refine (nested_any ps bp 2 bc cp _ _ _ _ _ _ _ hl.out hg.out.pos (by decide) (by decide) (‹SKind w a0 a1 a2 b0 b1 b2 Bd bp bc cp ps Bx (xs18 a0 a1 a2 b0 b1 b2) Bq (a0 % 3) (a1 % 3) (a2 % 9) (b0 % 3) (b1 % 3) (b2 % 9) Bk kind (1 + kind % 3) _›).1.pair.law.dbg).mono ?_; rintro e w' ⟨rfl, hnb⟩) | (go_at_call 10; refine (nestedR_same ps bp 2 bc cp _ _ _ _ _ _ _ hg.out hl.out (by decide) (by decide) (‹SKind w a0 a1 a2 b0 b1 b2 Bd bp bc cp ps Bx (xs18 a0 a1 a2 b0 b1 b2) Bq (a0 % 3) (a1 % 3) (a2 % 9) (b0 % 3) (b1 % 3) (b2 % 9) Bk kind (1 + kind % 3) _›).1.pair.law.dbg).mono ?_; rintro e w' ⟨rfl, hnb⟩) | (go_at_call 11; refine (stops_any ps bp 2 bc cp _ _ _ _ _ _ _ _ hl.out hg.out.pos (by decide) (by decide) (‹SKind w a0 a1 a2 b0 b1 b2 Bd bp bc cp ps Bx (xs18 a0 a1 a2 b0 b1 b2) Bq (a0 % 3) (a1 % 3) (a2 % 9) (b0 % 3) (b1 % 3) (b2 % 9) Bk kind (1 + kind % 3) _›).1.pair.law.dbg).mono ?_; rintro e w' ⟨rfl, hnb⟩) | (go_at_call 12; refine (stopsR_same ps bp 2 bc cp _ _ _ _ _ _ _ _ hg.out hl.out (by decide) (by decide) (‹SKind w a0 a1 a2 b0 b1 b2 Bd bp bc cp ps Bx (xs18 a0 a1 a2 b0 b1 b2) Bq (a0 % 3) (a1 % 3) (a2 % 9) (b0 % 3) (b1 % 3) (b2 % 9) Bk kind (1 + kind % 3) _›).1.pair.law.dbg).mono ?_; rintro e w' ⟨rfl, hnb⟩))
          have KB := Lib.hid (‹SKind w a0 a1 a2 b0 b1 b2 Bd bp bc cp ps Bx (xs18 a0 a1 a2 b0 b1 b2) Bq (a0 % 3) (a1 % 3) (a2 % 9) (b0 % 3) (b1 % 3) (b2 % 9) Bk kind (1 + kind % 3) w'›).1
          clear s0
          go_wp2
          go_roundw
          case rel => exact ⟨1 + 1, by omega, rfl, KB.out⟩
          case measure => simp [intOf]
        · go_wp2
          go_roundw
          case rel => exact ⟨1 + 1, by omega, rfl, K1.out.pair.law, K1.out.pair.xs⟩
          case measure => simp [intOf]
    · have cx := X.out.2
      go_wp2_with (go_at_call 8; refine (mod_any _ _ _ (by omega) (by omega) (by omega) (by omega)).mono ?_; rintro e w' ⟨rfl, rfl⟩)
      have PA := PairAt.mk (p0 := b0 % 3) (p1 := b1 % 3) (p2 := b2 % 9) (q0 := a0 % 3) (q1 := a1 % 3) (q2 := a2 % 9) (L.out.alloc (.cells #[.int .i64 (b0 % 3), .int .i64 (b1 % 3), .int .i64 (b2 % 9), .int .i64 (a0 % 3), .int .i64 (a1 % 3), .int .i64 (a2 % 9)] 31)) (X.out.later _) (Holds.last wr _ 31 (0, 0))
      have KA := Lib.hid (KindAt.mk (k0 := kind) (k1 := 1 + kind % 3) (PA.next ((Below.refl _ _).alloc (Nat.le_refl _) (.cells #[.int .i64 kind, .int .i64 (1 + kind % 3)] 3))) (Holds.last _ _ 3 (0, 0)))
      clear PA cx
      have hsz : (World.alloc wr (.cells #[.int .i64 (b0 % 3), .int .i64 (b1 % 3), .int .i64 (b2 % 9), .int .i64 (a0 % 3), .int .i64 (a1 % 3), .int .i64 (a2 % 9)] 31)).heap.size = wr.heap.size + 1 := by simp
      rw [hsz] at KA
      clear hsz
      generalize wr.heap.size + 1 = Bk at KA ⊢
      generalize wr.heap.size = Bq at KA ⊢
      generalize (World.alloc (World.alloc wr _) _) = W2 at KA ⊢
      obtain ⟨wo, rfl⟩ : ∃ wo : World, wo = wr := ⟨_, rfl⟩
      go_loopw [41] (fun i wr => ∃ j : Nat, j ≤ 2 ∧ i = .int .i64 j ∧ KindAt w wr a0 a1 a2 b0 b1 b2 Bd bp bc cp ps Bx (xs18 a0 a1 a2 b0 b1 b2) Bq (b0 % 3) (b1 % 3) (b2 % 9) (a0 % 3) (a1 % 3) (a2 % 9) Bk kind (1 + kind % 3)) (fun i _ => 2 - (intOf i).toNat)
      case atStart => exact ⟨0, by omega, rfl, KA.out⟩
      case round =>
        obtain ⟨j, hj, rfl, l⟩ := hrel
        have K1 := Lib.hid l
        clear l KA
        obtain rfl | rfl | rfl : j = 0 ∨ j = 1 ∨ j = 2 := by omega
        · have ck := K1.out.ks.2
          go_upto_region 8 with fail
          clear ck
          have s0 := K1.out.S
          have e0 : (nestedS 2 ps (b0 % 3) (b1 % 3) (b2 % 9) (a0 % 3) (a1 % 3) (a2 % 9) != nestedS 2 ps (b0 % 3) (b1 % 3) (b2 % 9) (a0 % 3) (a1 % 3) (a2 % 9)) = false := bne_self_eq_false _
          have e1 : (stopsS (nestedS 2 ps) (kind) (b0 % 3) (b1 % 3) (b2 % 9) (a0 % 3) (a1 % 3) (a2 % 9) != stopsS (nestedS 2 ps) (kind) (b0 % 3) (b1 % 3) (b2 % 9) (a0 % 3) (a1 % 3) (a2 % 9)) = false := bne_self_eq_false _
          go_region_held3 (SKind w a0 a1 a2 b0 b1 b2 Bd bp bc cp ps Bx (xs18 a0 a1 a2 b0 b1 b2) Bq (b0 % 3) (b1 % 3) (b2 % 9) (a0 % 3) (a1 % 3) (a2 % 9) Bk kind (1 + kind % 3)) (first | exact (KindAt.next K1.out ((Below.refl _ _).drew)).S | exact ((‹SKind w a0 a1 a2 b0 b1 b2 Bd bp bc cp ps Bx (xs18 a0 a1 a2 b0 b1 b2) Bq (b0 % 3) (b1 % 3) (b2 % 9) (a0 % 3) (a1 % 3) (a2 % 9) Bk kind (1 + kind % 3) _›).1.next ‹Below _ _ _›).S) (first | (go_at_call 9; refine (nested_any ps bp 2 bc cp _ _ _ _ _ _ _ hl.out hg.out.pos (by decide) (by decide) (‹SKind w a0 a1 a2 b0 b1 b2 Bd bp bc cp ps Bx (xs18 a0 a1 a2 b0 b1 b2) Bq (b0 % 3) (b1 % 3) (b2 % 9) (a0 % 3) (a1 % 3) (a2 % 9) Bk kind (1 + kind % 3) _›).1.pair.law.dbg).mono ?_; rintro e w' ⟨rfl, hnb⟩) | (go_at_call 10; refine (nestedR_same ps bp 2 bc cp _ _ _ _ _ _ _ hg.out hl.out (by decide) (by decide) (‹SKind w a0 a1 a2 b0 b1 b2 Bd bp bc cp ps Bx (xs18 a0 a1 a2 b0 b1 b2) Bq (b0 % 3) (b1 % 3) (b2 % 9) (a0 % 3) (a1 % 3) (a2 % 9) Bk kind (1 + kind % 3) _›).1.pair.law.dbg).mono ?_; rintro e w' ⟨rfl, hnb⟩) | (go_at_call 11; refine (stops_any ps bp 2 bc cp _ _ _ _ _ _ _ _ hl.out hg.out.pos (by decide) (by decide) (‹SKind w a0 a1 a2 b0 b1 b2 Bd bp bc cp ps Bx (xs18 a0 a1 a2 b0 b1 b2) Bq (b0 % 3) (b1 % 3) (b2 % 9) (a0 % 3) (a1 % 3) (a2 % 9) Bk kind (1 + kind % 3) _›).1.pair.law.dbg).mono ?_; rintro e w' ⟨rfl, hnb⟩) | (go_at_call 12; refine (stopsR_same ps bp 2 bc cp _ _ _ _ _ _ _ _ hg.out hl.out (by decide) (by decide) (‹SKind w a0 a1 a2 b0 b1 b2 Bd bp bc cp ps Bx (xs18 a0 a1 a2 b0 b1 b2) Bq (b0 % 3) (b1 % 3) (b2 % 9) (a0 % 3) (a1 % 3) (a2 % 9) Bk kind (1 + kind % 3) _›).1.pair.law.dbg).mono ?_; rintro e w' ⟨rfl, hnb⟩))
          have KB := Lib.hid (‹SKind w a0 a1 a2 b0 b1 b2 Bd bp bc cp ps Bx (xs18 a0 a1 a2 b0 b1 b2) Bq (b0 % 3) (b1 % 3) (b2 % 9) (a0 % 3) (a1 % 3) (a2 % 9) Bk kind (1 + kind % 3) w'›).1
          clear s0
          go_wp2
          go_roundw
          case rel => exact ⟨0 + 1, by omega, rfl, KB.out⟩
          case measure => simp [intOf]
        · have ck := K1.out.ks.2
          go_upto_region 8 with fail
          clear ck
          have s0 := K1.out.S
          have e0 : (nestedS 2 ps (b0 % 3) (b1 % 3) (b2 % 9) (a0 % 3) (a1 % 3) (a2 % 9) != nestedS 2 ps (b0 % 3) (b1 % 3) (b2 % 9) (a0 % 3) (a1 % 3) (a2 % 9)) = false := bne_self_eq_false _
          have e1 : (stopsS (nestedS 2 ps) (1 + kind % 3) (b0 % 3) (b1 % 3) (b2 % 9) (a0 % 3) (a1 % 3) (a2 % 9) != stopsS (nestedS 2 ps) (1 + kind % 3) (b0 % 3) (b1 % 3) (b2 % 9) (a0 % 3) (a1 % 3) (a2 % 9)) = false := bne_self_eq_false _
          go_region_held3 (SKind w a0 a1 a2 b0 b1 b2 Bd bp bc cp ps Bx (xs18 a0 a1 a2 b0 b1 b2) Bq (b0 % 3) (b1 % 3) (b2 % 9) (a0 % 3) (a1 % 3) (a2 % 9) Bk kind (1 + kind % 3)) (first | exact (KindAt.next K1.out ((Below.refl _ _).drew)).S | exact ((‹SKind w a0 a1 a2 b0 b1 b2 Bd bp bc cp ps Bx (xs18 a0 a1 a2 b0 b1 b2) Bq (b0 % 3) (b1 % 3) (b2 % 9) (a0 % 3) (a1 % 3) (a2 % 9) Bk kind (1 + kind % 3) _›).1.next ‹Below _ _ _›).S) (first | (go_at_call 9; refine (nested_any ps bp 2 bc cp _ _ _ _ _ _ _ hl.out hg.out.pos (by decide) (by decide) (‹SKind w a0 a1 a2 b0 b1 b2 Bd bp bc cp ps Bx (xs18 a0 a1 a2 b0 b1 b2) Bq (b0 % 3) (b1 % 3) (b2 % 9) (a0 % 3) (a1 % 3) (a2 % 9) Bk kind (1 + kind % 3) _›).1.pair.law.dbg).mono ?_; rintro e w' ⟨rfl, hnb⟩) | (go_at_call 10; refine (nestedR_same ps bp 2 bc cp _ _ _ _ _ _ _ hg.out hl.out (by decide) (by decide) (‹SKind w a0 a1 a2 b0 b1 b2 Bd bp bc cp ps Bx (xs18 a0 a1 a2 b0 b1 b2) Bq (b0 % 3) (b1 % 3) (b2 % 9) (a0 % 3) (a1 % 3) (a2 % 9) Bk kind (1 + kind % 3) _›).1.pair.law.dbg).mono ?_; rintro e w' ⟨rfl, hnb⟩) | (go_at_call 11; refine (stops_any ps bp 2 bc cp _ _ _ _ _ _ _ _ hl.out hg.out.pos (by decide) (by decide) (‹SKind w a0 a1 a2 b0 b1 b2 Bd bp bc cp ps Bx (xs18 a0 a1 a2 b0 b1 b2) Bq (b0 % 3) (b1 % 3) (b2 % 9) (a0 % 3) (a1 % 3) (a2 % 9) Bk kind (1 + kind % 3) _›).1.pair.law.dbg).mono ?_; rintro e w' ⟨rfl, hnb⟩) | (go_at_call 12; refine (stopsR_same ps bp 2 bc cp _ _ _ _ _ _ _ _ hg.out hl.out (by decide) (by decide) (‹SKind w a0 a1 a2 b0 b1 b2 Bd bp bc cp ps Bx (xs18 a0 a1 a2 b0 b1 b2) Bq (b0 % 3) (b1 % 3) (b2 % 9) (a0 % 3) (a1 % 3) (a2 % 9) Bk kind (1 + kind % 3) _›).1.pair.law.dbg).mono ?_; rintro e w' ⟨rfl, hnb⟩))
          have KB := Lib.hid (‹SKind w a0 a1 a2 b0 b1 b2 Bd bp bc cp ps Bx (xs18 a0 a1 a2 b0 b1 b2) Bq (b0 % 3) (b1 % 3) (b2 % 9) (a0 % 3) (a1 % 3) (a2 % 9) Bk kind (1 + kind % 3) w'›).1
          clear s0
          go_wp2
          go_roundw
          case rel => exact ⟨1 + 1, by omega, rfl, KB.out⟩
          case measure => simp [intOf]
        · go_wp2
          go_roundw
          case rel => exact ⟨2 + 1, by omega, rfl, K1.out.pair.law, K1.out.pair.xs⟩
          case measure => simp [intOf]
    · go_wp2_with fail
      refine (awake_any _).mono ?_
      rintro e w' ⟨rfl, hb⟩
      go_wp2
      go_ret
      exact ⟨rfl, L.out.below.trans (hb.mono L.out.below.size)⟩
end Go.Proofs.Ytdcdbopcijjkbaa
