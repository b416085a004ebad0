/- SteppingOrder: the walk. -/
import Derived.Test.YtdcdbopcijjkbaaOpen
namespace Go.Proofs.Ytdcdbopcijjkbaa
open Go.RowKit

/-- the state of the statement behind the making of the contexts: the boxes of its three identities and of the debug information -/
structure OrdAt (w W : World) (a0 a1 a2 b0 b1 b2 c0 c1 c2 : Int) (Bd bp bc cp : Nat) (ps : List Int) : Prop where
  below : Below w.heap.size w W
  a : W.heap[w.heap.size]? = some (.cells #[.int .i64 a0, .int .i64 a1, .int .i64 a2] 24 (0, 0))
  b : W.heap[w.heap.size + 1]? = some (.cells #[.int .i64 b0, .int .i64 b1, .int .i64 b2] 24 (0, 0))
  c : W.heap[w.heap.size + 1 + 1]? = some (.cells #[.int .i64 c0, .int .i64 c1, .int .i64 c2] 24 (0, 0))
  d : Holds W Bd #[.int .i64 0, .int .i64 0, .slice none 0 0, .slice none 0 0, .slice (some ⟨bp, 0, none⟩) 2 2]
  dbg : IsDbg W bp 2 bc cp ps
  pos : 0 < ps.length
  high : w.heap.size + 1 + 1 < bp ∧ w.heap.size + 1 + 1 < bc ∧ w.heap.size + 1 + 1 < Bd
  lt : w.heap.size + 1 + 1 < W.heap.size

theorem OrdAt.next {w W W' : World} {a0 a1 a2 b0 b1 b2 c0 c1 c2 : Int} {Bd bp bc cp : Nat} {ps : List Int} (h : OrdAt w W a0 a1 a2 b0 b1 b2 c0 c1 c2 Bd bp bc cp ps) (hb : Below W.heap.size W W') : OrdAt w W' a0 a1 a2 b0 b1 b2 c0 c1 c2 Bd bp bc cp ps :=
  ⟨h.below.trans (hb.mono h.below.size), (hb.block _ (by have := h.lt; omega)).trans h.a, (hb.block _ (by have := h.lt; omega)).trans h.b, (hb.block _ (by have := h.lt; omega)).trans h.c, h.d.below hb, h.dbg.below (by decide) h.pos hb, h.pos, h.high, Nat.lt_of_lt_of_le h.lt hb.size⟩

theorem ord_start {w w1 : World} {a0 a1 a2 b0 b1 b2 c0 c1 c2 : Int} {bp bc cp : Nat} {ps : List Int} (hd : IsDbg w1 bp 2 bc cp ps) (hp : 0 < ps.length)
    (hb : Below (((w.alloc (.cells #[.int .i64 a0, .int .i64 a1, .int .i64 a2] 24)).alloc (.cells #[.int .i64 b0, .int .i64 b1, .int .i64 b2] 24)).alloc (.cells #[.int .i64 c0, .int .i64 c1, .int .i64 c2] 24)).heap.size (((w.alloc (.cells #[.int .i64 a0, .int .i64 a1, .int .i64 a2] 24)).alloc (.cells #[.int .i64 b0, .int .i64 b1, .int .i64 b2] 24)).alloc (.cells #[.int .i64 c0, .int .i64 c1, .int .i64 c2] 24)) w1)
    (h1 : (((w.alloc (.cells #[.int .i64 a0, .int .i64 a1, .int .i64 a2] 24)).alloc (.cells #[.int .i64 b0, .int .i64 b1, .int .i64 b2] 24)).alloc (.cells #[.int .i64 c0, .int .i64 c1, .int .i64 c2] 24)).heap.size ≤ bp)
    (h2 : (((w.alloc (.cells #[.int .i64 a0, .int .i64 a1, .int .i64 a2] 24)).alloc (.cells #[.int .i64 b0, .int .i64 b1, .int .i64 b2] 24)).alloc (.cells #[.int .i64 c0, .int .i64 c1, .int .i64 c2] 24)).heap.size ≤ bc) (t : TypeId) :
    OrdAt w (w1.alloc (.cells #[.int .i64 0, .int .i64 0, .slice none 0 0, .slice none 0 0, .slice (some ⟨bp, 0, none⟩) 2 2] t)) a0 a1 a2 b0 b1 b2 c0 c1 c2 w1.heap.size bp bc cp ps := by
  have hs := hb.size
  simp at hs h1 h2
  have hbel : Below w.heap.size w w1 := (below3' _ _ _ _).trans (hb.mono (by simp; omega))
  have push_at : ∀ (x : World) (o : Obj), (x.alloc o).heap[x.heap.size]? = some o := fun x o => by show (x.heap.push o)[x.heap.size]? = some o; simp
  refine ⟨hbel.alloc hbel.size _, ?_, ?_, ?_, Holds.last _ _ _ _, hd.below (by decide) hp ((Below.refl _ _).alloc (Nat.le_refl _) _), hp, ⟨by omega, by omega, by omega⟩, by simp; omega⟩
  · rw [Below.heap_alloc _ _ _ (by omega), hb.block _ (by simp; omega), Below.heap_alloc _ _ _ (by simp; omega), Below.heap_alloc _ _ _ (by simp)]
    exact push_at _ _
  · rw [Below.heap_alloc _ _ _ (by omega), hb.block _ (by simp), Below.heap_alloc _ _ _ (by simp)]
    simpa using push_at (w.alloc (.cells #[.int .i64 a0, .int .i64 a1, .int .i64 a2] 24)) (.cells #[.int .i64 b0, .int .i64 b1, .int .i64 b2] 24)
  · rw [Below.heap_alloc _ _ _ (by omega), hb.block _ (by simp)]
    simpa using push_at ((w.alloc (.cells #[.int .i64 a0, .int .i64 a1, .int .i64 a2] 24)).alloc (.cells #[.int .i64 b0, .int .i64 b1, .int .i64 b2] 24)) (.cells #[.int .i64 c0, .int .i64 c1, .int .i64 c2] 24)

theorem set3 {W : World} {B : Nat} {x0 x1 x2 : Value} {t : TypeId} (h : W.heap[B]? = some (.cells #[x0, x1, x2] t (0, 0))) (y0 y1 y2 : Value) :
    (((W.setCell ⟨B, 0, none⟩ y0).setCell ⟨B, 1, none⟩ y1).setCell ⟨B, 2, none⟩ y2).heap[B]? = some (.cells #[y0, y1, y2] t (0, 0)) := by
  simp [World.setCell, Array.getElem?_modify, h]
theorem set3_other {W : World} {B n : Nat} (h : n ≠ B) (y0 y1 y2 : Value) :
    (((W.setCell ⟨B, 0, none⟩ y0).setCell ⟨B, 1, none⟩ y1).setCell ⟨B, 2, none⟩ y2).heap[n]? = W.heap[n]? := by
  rw [Below.heap_setCell _ _ _ _ h, Below.heap_setCell _ _ _ _ h, Below.heap_setCell _ _ _ _ h]
theorem set3_size {W : World} {B : Nat} (y0 y1 y2 : Value) :
    (((W.setCell ⟨B, 0, none⟩ y0).setCell ⟨B, 1, none⟩ y1).setCell ⟨B, 2, none⟩ y2).heap.size = W.heap.size := by simp [World.setCell]
theorem set3_below {w W : World} {B : Nat} (hb : Below w.heap.size w W) (h : w.heap.size ≤ B) (y0 y1 y2 : Value) :
    Below w.heap.size w (((W.setCell ⟨B, 0, none⟩ y0).setCell ⟨B, 1, none⟩ y1).setCell ⟨B, 2, none⟩ y2) := ((hb.setCell h _).setCell h _).setCell h _
theorem Holds.of_heap {W W' : World} {n : Nat} {cs : Array Value} (h : Holds W n cs) (hs : W'.heap.size = W.heap.size) (hb : W'.heap[n]? = W.heap[n]?) : Holds W' n cs :=
  ⟨by rw [hs]; exact h.1, fun i => by rw [← h.2 i]; simp [World.cell?, hb]⟩
theorem IsDbg.of_heap {w w' : World} {bp np bc cap : Nat} {ps : List Int} (h : IsDbg w bp np bc cap ps) (h1 : w'.heap[bp]? = w.heap[bp]?) (h2 : w'.heap[bc]? = w.heap[bc]?) : IsDbg w' bp np bc cap ps :=
  ⟨fun j hj => by rw [← h.procs j hj]; simp [World.cell?, h1], fun i hi => by rw [← h.ctxs i hi]; simp [World.cell?, h2]⟩
theorem OrdAt.setA {w W : World} {a0 a1 a2 b0 b1 b2 c0 c1 c2 : Int} {Bd bp bc cp : Nat} {ps : List Int} (h : OrdAt w W a0 a1 a2 b0 b1 b2 c0 c1 c2 Bd bp bc cp ps) (x0 x1 x2 : Int) :
    OrdAt w (((W.setCell ⟨w.heap.size, 0, none⟩ (.int .i64 x0)).setCell ⟨w.heap.size, 1, none⟩ (.int .i64 x1)).setCell ⟨w.heap.size, 2, none⟩ (.int .i64 x2)) x0 x1 x2 b0 b1 b2 c0 c1 c2 Bd bp bc cp ps := by
  have hh := h.high
  exact ⟨set3_below h.below (Nat.le_refl _) _ _ _, set3 h.a _ _ _, (set3_other (by omega) _ _ _).trans h.b, (set3_other (by omega) _ _ _).trans h.c, h.d.of_heap (set3_size _ _ _) (set3_other (by omega) _ _ _), h.dbg.of_heap (set3_other (by omega) _ _ _) (set3_other (by omega) _ _ _), h.pos, h.high, by rw [set3_size]; exact h.lt⟩
theorem OrdAt.setB {w W : World} {a0 a1 a2 b0 b1 b2 c0 c1 c2 : Int} {Bd bp bc cp : Nat} {ps : List Int} (h : OrdAt w W a0 a1 a2 b0 b1 b2 c0 c1 c2 Bd bp bc cp ps) (x0 x1 x2 : Int) :
    OrdAt w (((W.setCell ⟨w.heap.size + 1, 0, none⟩ (.int .i64 x0)).setCell ⟨w.heap.size + 1, 1, none⟩ (.int .i64 x1)).setCell ⟨w.heap.size + 1, 2, none⟩ (.int .i64 x2)) a0 a1 a2 x0 x1 x2 c0 c1 c2 Bd bp bc cp ps := by
  have hh := h.high
  exact ⟨set3_below h.below (by omega) _ _ _, (set3_other (by omega) _ _ _).trans h.a, set3 h.b _ _ _, (set3_other (by omega) _ _ _).trans h.c, h.d.of_heap (set3_size _ _ _) (set3_other (by omega) _ _ _), h.dbg.of_heap (set3_other (by omega) _ _ _) (set3_other (by omega) _ _ _), h.pos, h.high, by rw [set3_size]; exact h.lt⟩
theorem OrdAt.setC {w W : World} {a0 a1 a2 b0 b1 b2 c0 c1 c2 : Int} {Bd bp bc cp : Nat} {ps : List Int} (h : OrdAt w W a0 a1 a2 b0 b1 b2 c0 c1 c2 Bd bp bc cp ps) (x0 x1 x2 : Int) :
    OrdAt w (((W.setCell ⟨w.heap.size + 1 + 1, 0, none⟩ (.int .i64 x0)).setCell ⟨w.heap.size + 1 + 1, 1, none⟩ (.int .i64 x1)).setCell ⟨w.heap.size + 1 + 1, 2, none⟩ (.int .i64 x2)) a0 a1 a2 b0 b1 b2 x0 x1 x2 Bd bp bc cp ps := by
  have hh := h.high
  exact ⟨set3_below h.below (by omega) _ _ _, (set3_other (by omega) _ _ _).trans h.a, (set3_other (by omega) _ _ _).trans h.b, set3 h.c _ _ _, h.d.of_heap (set3_size _ _ _) (set3_other (by omega) _ _ _), h.dbg.of_heap (set3_other (by omega) _ _ _) (set3_other (by omega) _ _ _), h.pos, h.high, by rw [set3_size]; exact h.lt⟩
def OrdFacts (w W : World) (a0 a1 a2 b0 b1 b2 c0 c1 c2 : Int) (Bd bp : Nat) : Prop :=
  (∀ i, W.cell? ⟨w.heap.size, i, none⟩ = (#[.int .i64 a0, .int .i64 a1, .int .i64 a2] : Array Value)[i]?) ∧ (∀ i, W.cell? ⟨w.heap.size + 1, i, none⟩ = (#[.int .i64 b0, .int .i64 b1, .int .i64 b2] : Array Value)[i]?) ∧ (∀ i, W.cell? ⟨w.heap.size + 1 + 1, i, none⟩ = (#[.int .i64 c0, .int .i64 c1, .int .i64 c2] : Array Value)[i]?) ∧ (∀ i, W.frozen? ⟨w.heap.size, i, none⟩ = false) ∧ (∀ i, W.frozen? ⟨w.heap.size + 1, i, none⟩ = false) ∧ (∀ i, W.frozen? ⟨w.heap.size + 1 + 1, i, none⟩ = false) ∧ (∀ i, W.cell? ⟨Bd, i, none⟩ = (#[.int .i64 0, .int .i64 0, .slice none 0 0, .slice none 0 0, .slice (some ⟨bp, 0, none⟩) 2 2] : Array Value)[i]?)
theorem OrdAt.facts {w W : World} {a0 a1 a2 b0 b1 b2 c0 c1 c2 : Int} {Bd bp bc cp : Nat} {ps : List Int} (h : OrdAt w W a0 a1 a2 b0 b1 b2 c0 c1 c2 Bd bp bc cp ps) : OrdFacts w W a0 a1 a2 b0 b1 b2 c0 c1 c2 Bd bp :=
  ⟨fun i => by simp [World.cell?, h.a], fun i => by simp [World.cell?, h.b], fun i => by simp [World.cell?, h.c], fun i => by simp [World.frozen?, h.a], fun i => by simp [World.frozen?, h.b], fun i => by simp [World.frozen?, h.c], h.d.2⟩

set_option maxHeartbeats 2000000 in
theorem order_any (w : World) (v : Value) (zs : List Int) (n : Nat) (h : IsRow w v zs n) (a0 a1 a2 b0 b1 b2 c0 c1 c2 : Int) (ha0 : I64 a0) (ha1 : I64 a1) (ha2 : I64 a2) (hb0 : I64 b0) (hb1 : I64 b1) (hb2 : I64 b2) (hc0 : I64 c0) (hc1 : I64 c1) (hc2 : I64 c2) :
    Calls Try.prog 4 #[v, idV a0 a1 a2, idV b0 b1 b2, idV c0 c1 c2] w fun e w' => e = .returned (.bool true) ∧ Below w.heap.size w w' := by
  have HR := Lib.hid h; clear h
  obtain ⟨ha01, ha02⟩ := ha0
  obtain ⟨ha11, ha12⟩ := ha1
  obtain ⟨ha21, ha22⟩ := ha2
  obtain ⟨hb01, hb02⟩ := hb0
  obtain ⟨hb11, hb12⟩ := hb1
  obtain ⟨hb21, hb22⟩ := hb2
  obtain ⟨hc01, hc02⟩ := hc0
  obtain ⟨hc11, hc12⟩ := hc1
  obtain ⟨hc21, hc22⟩ := hc2
  go_enter Try.func4, Try.ntmps4
  go_wp2_with fail
  refine (contexts_any _ v zs n (HR.out.below (below3' _ _ _ _))).mono ?_
  rintro e w1 ⟨bp, bc, cp, rfl, hd, hb, hbp, hbc⟩
  have hg := Lib.hid (good_psOf zs (min n 8))
  have hl := Lib.hid (show (psOf zs (min n 8)).length ≤ 9 by rw [psOf_length]; omega)
  generalize psOf zs (min n 8) = ps at hd hg hl
  have L0 := Lib.hid (ord_start (t := 29) hd hg.out.pos hb hbp hbc)
  clear hd hb HR hbp hbc
  go_upto_region 2 with fail
  generalize w1.heap.size = Bd at L0 ⊢
  generalize (w1.alloc _) = W at L0 ⊢
  have L1 := L0.out.next (Below.refl _ _).drew
  obtain ⟨f1, f2, f3, f4, f5, f6, f7⟩ := L0.out.facts
  go_cut [8] (fun s8 wx => s8 = .bool false ∧ Hid (OrdAt w wx (a0 % 3) (a1 % 3) (a2 % 9) (b0 % 3) (b1 % 3) (b2 % 9) (c0 % 3) (c1 % 3) (c2 % 9) Bd bp bc cp ps))
  case first =>
    go_region_with (go_at_call 7; refine (near_any _ _ _ _ (by omega) (by omega) (by omega) (by omega) (by omega) (by omega)).mono ?_; rintro e w' ⟨rfl, hnb⟩; have L2 := OrdAt.next (by assumption) hnb; obtain ⟨f1, f2, f3, f4, f5, f6, f7⟩ := L2.facts)
    all_goals
      go_wp2_with fail
      go_meet
      exact ⟨rfl, Lib.hid (((OrdAt.setA (by assumption) _ _ _).setB _ _ _).setC _ _ _)⟩
  case rest =>
    obtain ⟨rfl, hord⟩ := hcut
    clear L1 f1 f2 f3 f4 f5 f6 f7 L0
    generalize a0 % 3 = x0 at hord
    generalize a1 % 3 = x1 at hord
    generalize a2 % 9 = x2 at hord
    generalize b0 % 3 = y0 at hord
    generalize b1 % 3 = y1 at hord
    generalize b2 % 9 = y2 at hord
    generalize c0 % 3 = z0 at hord
    generalize c1 % 3 = z1 at hord
    generalize c2 % 9 = z2 at hord
    have L1 := hord.out
    obtain ⟨f1, f2, f3, f4, f5, f6, f7⟩ := hord.out.facts
    clear f4 f5 f6
    have naa := nested_irrefl hg.out 2 x0 x1 x2
    cases nab : nestedS 2 ps x0 x1 x2 y0 y1 y2 with
    | false =>
      go_wp2_with (first | (go_at_call 9; refine (nested_any ps bp 2 bc cp _ _ _ _ _ _ _ hl.out hg.out.pos (by decide) (by decide) (OrdAt.dbg (by assumption))).mono ?_; rintro e w' ⟨rfl, hnb⟩; have L2 := OrdAt.next (by assumption) hnb; clear hnb; obtain ⟨f1, f2, f3, f4, f5, f6, f7⟩ := L2.facts; clear f4 f5 f6) | (go_at_call 13; refine (awake_any _).mono ?_; rintro e w' ⟨rfl, hnb⟩; have L2 := OrdAt.next (by assumption) hnb; clear hnb))
      go_ret
      exact ⟨rfl, OrdAt.below (by assumption)⟩
    | true =>
      have nba := nested_asymm hg.out 2 nab
      cases nbc : nestedS 2 ps y0 y1 y2 z0 z1 z2 with
      | false =>
        go_wp2_with (first | (go_at_call 9; refine (nested_any ps bp 2 bc cp _ _ _ _ _ _ _ hl.out hg.out.pos (by decide) (by decide) (OrdAt.dbg (by assumption))).mono ?_; rintro e w' ⟨rfl, hnb⟩; have L2 := OrdAt.next (by assumption) hnb; clear hnb; obtain ⟨f1, f2, f3, f4, f5, f6, f7⟩ := L2.facts; clear f4 f5 f6) | (go_at_call 13; refine (awake_any _).mono ?_; rintro e w' ⟨rfl, hnb⟩; have L2 := OrdAt.next (by assumption) hnb; clear hnb))
        go_ret
        exact ⟨rfl, OrdAt.below (by assumption)⟩
      | true =>
        have nac := nested_trans hg.out 2 nab nbc
        go_wp2_with (first | (go_at_call 9; refine (nested_any ps bp 2 bc cp _ _ _ _ _ _ _ hl.out hg.out.pos (by decide) (by decide) (OrdAt.dbg (by assumption))).mono ?_; rintro e w' ⟨rfl, hnb⟩; have L2 := OrdAt.next (by assumption) hnb; clear hnb; obtain ⟨f1, f2, f3, f4, f5, f6, f7⟩ := L2.facts; clear f4 f5 f6) | (go_at_call 13; refine (awake_any _).mono ?_; rintro e w' ⟨rfl, hnb⟩; have L2 := OrdAt.next (by assumption) hnb; clear hnb))
        go_ret
        exact ⟨rfl, OrdAt.below (by assumption)⟩
end Go.Proofs.Ytdcdbopcijjkbaa
