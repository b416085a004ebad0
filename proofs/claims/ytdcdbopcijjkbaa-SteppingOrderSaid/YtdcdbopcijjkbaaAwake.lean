/- The sanity check awake returns true, and the statements' walks. -/
import Derived.Test.YtdcdbopcijjkbaaPlain
namespace Go.Proofs.Ytdcdbopcijjkbaa
open Go.RowKit

theorem bcell {W w1 : World} (hb : Below W.heap.size W w1) : (∀ b o, b < W.heap.size → w1.cell? ⟨b, o, none⟩ = W.cell? ⟨b, o, none⟩) ∧ (∀ b o, b < W.heap.size → w1.frozen? ⟨b, o, none⟩ = W.frozen? ⟨b, o, none⟩) :=
  ⟨fun b o h => hb.cell (p := ⟨b, o, none⟩) h, fun b o h => hb.frozen (p := ⟨b, o, none⟩) h⟩
abbrev exPs : List Int := [-1, 0]
theorem ex1 : nestedS 1 exPs 9 0 1 9 0 0 = true := by decide
theorem ex2 : nestedS 1 exPs 9 0 0 9 0 1 = false := by decide
theorem ex3 : stopsS (nestedS 1 exPs) 3 9 0 1 9 0 0 = true := by decide
theorem ex4 : stopsS (nestedS 1 exPs) 2 9 0 0 9 0 1 = false := by decide

/-- a block that is known whole -/
def Holds (W : World) (n : Nat) (cs : Array Value) : Prop := n < W.heap.size ∧ ∀ i, W.cell? ⟨n, i, none⟩ = cs[i]?
theorem Holds.below {W W' : World} {n : Nat} {cs : Array Value} (h : Holds W n cs) (hb : Below W.heap.size W W') : Holds W' n cs :=
  ⟨Nat.lt_of_lt_of_le h.1 hb.size, fun i => (hb.cell (p := ⟨n, i, none⟩) h.1).trans (h.2 i)⟩
theorem Holds.last (w : World) (cs : Array Value) (t : TypeId) (fr : Nat × Nat) : Holds (w.alloc (.cells cs t fr)) w.heap.size cs :=
  ⟨by simp, fun i => Go.Joins.cell_alloc_mark_at _ _ _ _ _ _ rfl⟩
theorem Holds.later {W : World} {n : Nat} {cs : Array Value} (h : Holds W n cs) (o : Obj) : Holds (W.alloc o) n cs :=
  ⟨by have := h.1; simp; omega, fun i => (World.cell?_alloc_past _ _ _ h.1).trans (h.2 i)⟩
theorem Holds.drew {W : World} {n : Nat} {cs : Array Value} (h : Holds W n cs) : Holds W.drew n cs := h

structure AwkAt (B : Nat) (W : World) : Prop where
  size : B < W.heap.size
  dbg : IsDbg W (B + 1) 1 B 2 exPs
  d : Holds W (B + 1 + 1) #[.int .i64 0, .int .i64 0, .slice none 0 0, .slice none 0 0, .slice (some ⟨B + 1, 0, none⟩) 1 1]
  a : Holds W (B + 1 + 1 + 1) #[.int .i64 9, .int .i64 0, .int .i64 1]
  b : Holds W (B + 1 + 1 + 1 + 1) #[.int .i64 9, .int .i64 0, .int .i64 0]
theorem AwkAt.below {B : Nat} {W W' : World} (h : AwkAt B W) (hb : Below W.heap.size W W') : AwkAt B W' :=
  ⟨Nat.lt_of_lt_of_le h.size hb.size, h.dbg.below (by decide) (by decide) hb, h.d.below hb, h.a.below hb, h.b.below hb⟩
theorem awk_start (w : World) : AwkAt w.heap.size (((((w.alloc (.cells #[.int .i64 (-1), .int .i64 (-1), .int .i64 0, .int .i64 0, .int .i64 0, .int .i64 0] 42)).alloc
    (.cells #[.string ⟨#[]⟩, .int .i64 0, .int .i64 0, .int .i64 0, .slice none 0 0, .slice (some ⟨w.heap.size, 0, none⟩) 2 2, .slice none 0 0, .slice none 0 0, .slice none 0 0, .slice none 0 0, .slice none 0 0] 51)).alloc
    (.cells #[.int .i64 0, .int .i64 0, .slice none 0 0, .slice none 0 0, .slice (some ⟨w.heap.size + 1, 0, none⟩) 1 1] 29)).alloc
    (.cells #[.int .i64 9, .int .i64 0, .int .i64 1] 24)).alloc (.cells #[.int .i64 9, .int .i64 0, .int .i64 0] 24)) := by
  have h0 := Holds.last w #[.int .i64 (-1), .int .i64 (-1), .int .i64 0, .int .i64 0, .int .i64 0, .int .i64 0] 42 (0, 0)
  have h1 := Holds.last (w.alloc (.cells #[.int .i64 (-1), .int .i64 (-1), .int .i64 0, .int .i64 0, .int .i64 0, .int .i64 0] 42)) #[.string ⟨#[]⟩, .int .i64 0, .int .i64 0, .int .i64 0, .slice none 0 0, .slice (some ⟨w.heap.size, 0, none⟩) 2 2, .slice none 0 0, .slice none 0 0, .slice none 0 0, .slice none 0 0, .slice none 0 0] 51 (0, 0)
  have g0 := (((h0.later (.cells #[.string ⟨#[]⟩, .int .i64 0, .int .i64 0, .int .i64 0, .slice none 0 0, .slice (some ⟨w.heap.size, 0, none⟩) 2 2, .slice none 0 0, .slice none 0 0, .slice none 0 0, .slice none 0 0, .slice none 0 0] 51)).later (.cells #[.int .i64 0, .int .i64 0, .slice none 0 0, .slice none 0 0, .slice (some ⟨w.heap.size + 1, 0, none⟩) 1 1] 29)).later (.cells #[.int .i64 9, .int .i64 0, .int .i64 1] 24)).later (.cells #[.int .i64 9, .int .i64 0, .int .i64 0] 24)
  have g1 := ((h1.later (.cells #[.int .i64 0, .int .i64 0, .slice none 0 0, .slice none 0 0, .slice (some ⟨w.heap.size + 1, 0, none⟩) 1 1] 29)).later (.cells #[.int .i64 9, .int .i64 0, .int .i64 1] 24)).later (.cells #[.int .i64 9, .int .i64 0, .int .i64 0] 24)
  refine ⟨g0.1, ⟨?_, ?_⟩, ?_, ?_, ?_⟩
  · intro j hj
    have : j = 0 := by omega
    subst this
    have := g1.2 5
    simpa using this
  · intro i hi
    match i, hi with
    | 0, _ => simpa using g0.2 0
    | 1, _ => simpa using g0.2 3
  · have h := Holds.last ((w.alloc (.cells #[.int .i64 (-1), .int .i64 (-1), .int .i64 0, .int .i64 0, .int .i64 0, .int .i64 0] 42)).alloc (.cells #[.string ⟨#[]⟩, .int .i64 0, .int .i64 0, .int .i64 0, .slice none 0 0, .slice (some ⟨w.heap.size, 0, none⟩) 2 2, .slice none 0 0, .slice none 0 0, .slice none 0 0, .slice none 0 0, .slice none 0 0] 51)) #[.int .i64 0, .int .i64 0, .slice none 0 0, .slice none 0 0, .slice (some ⟨w.heap.size + 1, 0, none⟩) 1 1] 29 (0, 0)
    simpa using (h.later (.cells #[.int .i64 9, .int .i64 0, .int .i64 1] 24)).later (.cells #[.int .i64 9, .int .i64 0, .int .i64 0] 24)
  · have h := Holds.last (((w.alloc (.cells #[.int .i64 (-1), .int .i64 (-1), .int .i64 0, .int .i64 0, .int .i64 0, .int .i64 0] 42)).alloc (.cells #[.string ⟨#[]⟩, .int .i64 0, .int .i64 0, .int .i64 0, .slice none 0 0, .slice (some ⟨w.heap.size, 0, none⟩) 2 2, .slice none 0 0, .slice none 0 0, .slice none 0 0, .slice none 0 0, .slice none 0 0] 51)).alloc (.cells #[.int .i64 0, .int .i64 0, .slice none 0 0, .slice none 0 0, .slice (some ⟨w.heap.size + 1, 0, none⟩) 1 1] 29)) #[.int .i64 9, .int .i64 0, .int .i64 1] 24 (0, 0)
    simpa using h.later (.cells #[.int .i64 9, .int .i64 0, .int .i64 0] 24)
  · have h := Holds.last ((((w.alloc (.cells #[.int .i64 (-1), .int .i64 (-1), .int .i64 0, .int .i64 0, .int .i64 0, .int .i64 0] 42)).alloc (.cells #[.string ⟨#[]⟩, .int .i64 0, .int .i64 0, .int .i64 0, .slice none 0 0, .slice (some ⟨w.heap.size, 0, none⟩) 2 2, .slice none 0 0, .slice none 0 0, .slice none 0 0, .slice none 0 0, .slice none 0 0] 51)).alloc (.cells #[.int .i64 0, .int .i64 0, .slice none 0 0, .slice none 0 0, .slice (some ⟨w.heap.size + 1, 0, none⟩) 1 1] 29)).alloc (.cells #[.int .i64 9, .int .i64 0, .int .i64 1] 24)) #[.int .i64 9, .int .i64 0, .int .i64 0] 24 (0, 0)
    simpa using h
theorem awk_below (w : World) (o1 o2 o3 o4 o5 : Obj) : Below w.heap.size w (((((w.alloc o1).alloc o2).alloc o3).alloc o4).alloc o5) :=
  ((below3' w o1 o2 o3).alloc (by simp; omega) _).alloc (by simp; omega) _

set_option maxHeartbeats 1000000 in
theorem awake_any (w : World) : Calls Try.prog 13 #[] w fun e w' => e = .returned (.bool true) ∧ Below w.heap.size w w' := by
  go_enter Try.func13, Try.ntmps13
  go_wp2_with fail
  refine (nested_any exPs (w.heap.size + 1) 1 w.heap.size 2 9 0 1 9 0 0 _ (by decide) (by decide) (by decide) (by decide) (awk_start w).dbg).mono ?_
  rw [ex1]
  rintro e w1 ⟨rfl, hb⟩
  have H1 := (awk_start w).below hb
  have B1 := Lib.hid ((awk_below w _ _ _ _ _).trans (hb.mono (by simp; omega)))
  clear hb
  have q1 := H1.d.2; have q2 := H1.a.2; have q3 := H1.b.2
  have K1 := Lib.hid H1; clear H1
  go_wp2_with fail
  refine (nested_any exPs (w.heap.size + 1) 1 w.heap.size 2 9 0 0 9 0 1 _ (by decide) (by decide) (by decide) (by decide) K1.out.dbg).mono ?_
  rw [ex2]
  rintro e w2 ⟨rfl, hb⟩
  have H2 := K1.out.below hb
  have B2 := Lib.hid (B1.out.trans (hb.mono B1.out.size))
  clear hb B1 K1 q1 q2 q3
  have q1 := H2.d.2; have q2 := H2.a.2; have q3 := H2.b.2
  have K2 := Lib.hid H2; clear H2
  go_wp2_with fail
  refine (stops_any exPs (w.heap.size + 1) 1 w.heap.size 2 3 9 0 1 9 0 0 _ (by decide) (by decide) (by decide) (by decide) K2.out.dbg).mono ?_
  rw [ex3]
  rintro e w3 ⟨rfl, hb⟩
  have H3 := K2.out.below hb
  have B3 := Lib.hid (B2.out.trans (hb.mono B2.out.size))
  clear hb B2 K2 q1 q2 q3
  have q1 := H3.d.2; have q2 := H3.a.2; have q3 := H3.b.2
  have K3 := Lib.hid H3; clear H3
  go_wp2_with fail
  refine (stops_any exPs (w.heap.size + 1) 1 w.heap.size 2 2 9 0 0 9 0 1 _ (by decide) (by decide) (by decide) (by decide) K3.out.dbg).mono ?_
  rw [ex4]
  rintro e w4 ⟨rfl, hb⟩
  have B4 := Lib.hid (B3.out.trans (hb.mono B3.out.size))
  clear hb B3 K3 q1 q2 q3
  go_wp2
  go_ret
  exact ⟨rfl, B4.out⟩
end Go.Proofs.Ytdcdbopcijjkbaa
