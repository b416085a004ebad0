/- The contract of contexts. Conditions: the bounds stated in each theorem. -/
import Derived.Test.YtdcdbopcijjkbaaWalksB
import Derived.Deep.AppendLies
import Derived.Deep.RegionLaw
import Derived.Lib.SmallJoins
namespace Go.Proofs.Ytdcdbopcijjkbaa
open Go.RowKit

def parAt (zs : List Int) (i : Nat) : Int := zs.getD i 0 % ((i : Int) + 1)
/-- the parents that contexts makes of the first k numbers -/
def psOf (zs : List Int) (k : Nat) : List Int := -1 :: (List.range k).map (parAt zs)
def ctxCells (p : Int) : List Value := [.int .i64 p, .int .i64 0, .int .i64 0]
def flat (zs : List Int) (k : Nat) : List Value := [.int .i64 (-1), .int .i64 (-1), .int .i64 0] ++ ((List.range k).map (parAt zs)).flatMap ctxCells

abbrev boxCells (v : Value) : Array Value := #[.string ⟨#[]⟩, .int .i64 0, .int .i64 0, .int .i64 0, .slice none 0 0, v, .slice none 0 0, .slice none 0 0, .slice none 0 0, .slice none 0 0, .slice none 0 0]
structure CtxAt (w wr : World) (zs : List Int) (k g cap : Nat) : Prop where
  below : Below w.heap.size w wr
  size : w.heap.size + 3 ≤ wr.heap.size
  res : wr.heap[w.heap.size]? = some (.cells #[.int .i64 0, .int .i64 0, .slice none 0 0, .slice none 0 0, .slice none 0 0] 29 (0, 0))
  box : wr.heap[w.heap.size + 1 + 1]? = some (.cells (boxCells (.slice (some ⟨g, 0, none⟩) (k + 1) cap)) 51 (0, 0))
  own : wr.ownsRow (w.heap.size + 1) 42 3 (.slice (some ⟨g, 0, none⟩) (k + 1) cap) (k + 1) (flat zs k)
  ne : ¬ g = w.heap.size + 1 + 1
def CtxRel (w wr : World) (zs : List Int) (k : Nat) : Prop := ∃ g cap, CtxAt w wr zs k g cap

theorem alloc_last (w : World) (o : Obj) : ((w.alloc o).drew).heap[w.heap.size]? = some o := by
  show (w.heap.push o)[w.heap.size]? = some o
  simp
theorem flat_succ (zs : List Int) (k : Nat) : flat zs (k + 1) = flat zs k ++ ctxCells (parAt zs k) := by
  simp [flat, List.range_succ]
theorem box_far {w wr w2 : World} {zs : List Int} {k g cp : Nat} (hat : CtxAt w wr zs k g cp) (o : Obj) (hg : ((wr.alloc o).drew).grownBy w2 (some g)) :
    w2.heap[w.heap.size + 1 + 1]? = some (.cells (boxCells (.slice (some ⟨g, 0, none⟩) (k + 1) cp)) 51 (0, 0)) := by
  have h1 := hg.block (w.heap.size + 1 + 1) (by have := hat.size; simp [World.drew]; omega) (fun e => hat.ne (Option.some.inj e).symm)
  rw [h1]
  exact (Below.heap_alloc wr o _ (by have := hat.size; omega)).trans hat.box
theorem ownsRow_set {w : World} {base size n g cap : Nat} {e : TypeId} {xs : List Value} (h : w.ownsRow base e size (.slice (some ⟨g, 0, none⟩) n cap) n xs) (a : Addr) (u : Value) (hne : g ≠ a.block) :
    (w.setCell a u).ownsRow base e size (.slice (some ⟨g, 0, none⟩) n cap) n xs := by
  refine ⟨h.1, ?_⟩
  rcases h.2 with ⟨hv, _⟩ | ⟨g', cap', cur, hv, hb, hh, r⟩
  · cases hv
  · refine .inr ⟨g', cap', cur, hv, hb, ?_, r⟩
    have : g' = g := by simp at hv; exact hv.1.symm
    rw [Below.heap_setCell _ _ _ _ (by omega)]
    exact hh
theorem ctx_next {w wr w2 : World} {zs : List Int} {k g cp g2 cp2 : Nat} {z : Int} (hat : CtxAt w wr zs k g cp) (o : Obj) (hg : ((wr.alloc o).drew).grownBy w2 (some g)) (hz : zs.getD k 0 = z)
    (hat2 : some g = some g2 ∨ g2 = ((wr.alloc o).drew).heap.size)
    (hown : w2.ownsRow (w.heap.size + 1) 42 3 (.slice (some ⟨g2, 0, none⟩) (k + 1 + 1) cp2) (k + 1 + 1) (flat zs k ++ ctxCells (z % ((k : Int) + 1)))) :
    CtxAt w (w2.setCell ⟨w.heap.size + 1 + 1, 5, none⟩ (.slice (some ⟨g2, 0, none⟩) (k + 1 + 1) cp2)) zs (k + 1) g2 cp2 := by
  have hsz := hat.size
  have hne : ¬ g2 = w.heap.size + 1 + 1 := by
    rcases hat2 with h | h
    · have := hat.ne; have h' := Option.some.inj h; omega
    · rw [h]; simp [World.drew]; omega
  have hgb := (hat.own).lt g rfl
  have hs2 : wr.heap.size + 1 ≤ w2.heap.size := by have := hg.size; simpa [World.drew] using this
  have hbel : Below w.heap.size w w2 := by
    refine Below.trans hat.below ?_
    refine (((Below.refl w.heap.size wr).alloc (by omega) o).drew).grown hg (by simp [World.drew]; omega) ?_
    intro j hj; have := Option.some.inj hj; omega
  refine ⟨hbel.setCell (by simp; omega) _, by simp [World.setCell]; omega, ?_, ?_, ?_, hne⟩
  · rw [Below.heap_setCell _ _ _ _ (by simp; omega), hg.block w.heap.size (by simp [World.drew]; omega) (fun e => by have := Option.some.inj e; omega)]
    exact (Below.heap_alloc wr o _ (by omega)).trans hat.res
  · have := box_far hat o hg
    simp [World.setCell, Array.getElem?_modify, this]
  · rw [flat_succ, show parAt zs k = z % ((k : Int) + 1) by simp [parAt, ← hz]]
    exact ownsRow_set hown _ _ hne

def CtxPost (w : World) (ps : List Int) (e : Ending) (w' : World) : Prop := ∃ bp bc cp, e = .returned (dbgV bp 2 2) ∧ IsDbg w' bp 2 bc cp ps ∧ Below w.heap.size w w' ∧ w.heap.size ≤ bp ∧ w.heap.size ≤ bc
theorem psOf_length (zs : List Int) (k : Nat) : (psOf zs k).length = k + 1 := by simp [psOf]
theorem flat_at (zs : List Int) (k i : Nat) (h : i < k + 1) : (flat zs k)[i * 3]? = some (.int .i64 ((psOf zs k).getD i 0)) := by
  have key : ∀ (l : List Int) (i : Nat), i < l.length → (l.flatMap ctxCells)[i * 3]? = some (.int .i64 (l.getD i 0)) := by
    intro l
    induction l with
    | nil => intro i hi; simp at hi
    | cons x l ih =>
      intro i hi
      cases i with
      | zero => simp [ctxCells]
      | succ i =>
        have := ih i (by simpa using hi)
        rw [show (i + 1) * 3 = i * 3 + 3 by omega]
        simp [ctxCells, this]
  cases i with
  | zero => simp [flat, psOf]
  | succ i =>
    rw [show (i + 1) * 3 = i * 3 + 3 by omega]
    have := key ((List.range k).map (parAt zs)) i (by simp; omega)
    simp only [flat, psOf, List.getD_cons_succ, List.cons_append, List.nil_append, List.getElem?_cons_succ]
    exact this
theorem ctx_done {w wr : World} {zs : List Int} {k g cp len : Nat} (hat : CtxAt w wr zs k g cp) (hk : k = min len 8) (u0 u1 u2 u3 u4 : Value) (t : TypeId) :
    CtxPost w (psOf zs (min len 8)) (.returned (dbgV wr.heap.size 2 2)) ((((((wr.setCell ⟨w.heap.size, 0, none⟩ u0).setCell ⟨w.heap.size, 1, none⟩ u1).setCell ⟨w.heap.size, 2, none⟩ u2).setCell ⟨w.heap.size, 3, none⟩ u3).setCell ⟨w.heap.size, 4, none⟩ u4).alloc
      (.cells #[.string ⟨#[]⟩, .int .i64 0, .int .i64 0, .int .i64 0, .slice none 0 0, .slice (some ⟨g, 0, none⟩) (k + 1) cp, .slice none 0 0, .slice none 0 0, .slice none 0 0, .slice none 0 0, .slice none 0 0,
        .string ⟨#[]⟩, .int .i64 0, .int .i64 0, .int .i64 0, .slice none 0 0, .slice (some ⟨g, 0, none⟩) (k + 1) cp, .slice none 0 0, .slice none 0 0, .slice none 0 0, .slice none 0 0, .slice none 0 0] t)) := by
  subst hk
  have hgb := hat.own.lt g rfl
  have hsz := hat.size
  generalize hwr : ((((wr.setCell ⟨w.heap.size, 0, none⟩ u0).setCell ⟨w.heap.size, 1, none⟩ u1).setCell ⟨w.heap.size, 2, none⟩ u2).setCell ⟨w.heap.size, 3, none⟩ u3).setCell ⟨w.heap.size, 4, none⟩ u4 = wx
  have hs : wx.heap.size = wr.heap.size := by rw [← hwr]; simp [World.setCell]
  have hg : wx.heap[g]? = wr.heap[g]? := by
    rw [← hwr]
    repeat rw [Below.heap_setCell _ _ _ _ (by simp; omega)]
  have hb : Below w.heap.size w wx := by
    rw [← hwr]
    exact (((((hat.below.setCell (Nat.le_refl _) _).setCell (Nat.le_refl _) _).setCell (Nat.le_refl _) _).setCell (Nat.le_refl _) _).setCell (Nat.le_refl _) _)
  clear hwr
  rw [← hs]
  refine ⟨wx.heap.size, g, cp, rfl, ⟨?_, ?_⟩, hb.alloc (by omega) _, by omega, by omega⟩
  · intro j hj
    rw [psOf_length]
    match j, hj with
    | 0, _ => rw [Go.Joins.cell_alloc_mark_at _ _ _ _ _ _ rfl]; rfl
    | 1, _ => rw [Go.Joins.cell_alloc_mark_at _ _ _ _ _ _ rfl]; rfl
  · intro i hi
    rw [psOf_length] at hi
    rw [World.cell?_alloc_past _ _ _ (by omega)]
    have h1 := hat.own.cellAt (i * 3) (by omega)
    rw [flat_at zs _ i hi] at h1
    rw [← h1]
    simp [World.cell?, hg]

theorem ctx_start (w : World) (zs : List Int) : CtxAt w (((w.alloc (.cells #[.int .i64 0, .int .i64 0, .slice none 0 0, .slice none 0 0, .slice none 0 0] 29)).alloc (.cells #[.int .i64 (-1), .int .i64 (-1), .int .i64 0] 42)).alloc
    (.cells (boxCells (.slice (some ⟨w.heap.size + 1, 0, none⟩) (0 + 1) 1)) 51)) zs 0 (w.heap.size + 1) 1 := by
  refine ⟨(((Below.refl _ _).alloc (Nat.le_refl _) _).alloc (by simp) _).alloc (by simp; omega) _, by simp, ?_, ?_, ?_, by omega⟩
  · rw [Below.heap_alloc _ _ _ (by simp; omega), Below.heap_alloc _ _ _ (by simp)]
    show (w.heap.push _)[w.heap.size]? = _
    simp
  · rw [show w.heap.size + 1 + 1 = ((w.alloc (.cells #[.int .i64 0, .int .i64 0, .slice none 0 0, .slice none 0 0, .slice none 0 0] 29)).alloc (.cells #[.int .i64 (-1), .int .i64 (-1), .int .i64 0] 42)).heap.size by simp]
    exact alloc_last _ _
  · have h := World.ownsRow_lit (base := w.heap.size + 1) (e := 42) (size := 3) (w.alloc (.cells #[.int .i64 0, .int .i64 0, .slice none 0 0, .slice none 0 0, .slice none 0 0] 29)) #[.int .i64 (-1), .int .i64 (-1), .int .i64 0] 1 (by simp) (by unfold maxLen; omega) (by simp)
    simpa [flat] using h.alloc _

theorem info42 : (Try.prog.info? 42).map (fun i => (i.zero, i.size, i.bytes)) = some (some (.agg #[.int .i64 0, .int .i64 0, .int .i64 0]), 3, 24) := by kernel_rfl

set_option maxHeartbeats 1000000 in
theorem contexts_some (zs : List Int) (b off len cap : Nat) (w : World) (hl : len ≤ cap) (hm : cap ≤ maxLen) (hz : zs.length = cap) (hc : ∀ i, i < cap → w.cell? ⟨b, off + i, none⟩ = some (.int .i64 (zs.getD i 0)))
    (hr : ∀ i, -9223372036854775808 ≤ zs.getD i 0 ∧ zs.getD i 0 ≤ 9223372036854775807) :
    Calls Try.prog 6 #[.slice (some ⟨b, off, none⟩) len cap] w (CtxPost w (psOf zs (min len 8))) := by
  unfold maxLen at hm
  have HC := Lib.hid hc; clear hc
  have HR := Lib.hid hr; clear hr
  have HZ := Lib.hid hz; clear hz
  go_enter Try.func6, Try.ntmps6
  go_wp2
  go_loopw [4] (fun i wr => ∃ k : Nat, k ≤ min len 8 ∧ i = .int .i64 k ∧ CtxRel w wr zs k) (fun i _ => 8 - (intOf i).toNat)
  case atStart =>
    exact ⟨0, Nat.zero_le _, rfl, w.heap.size + 1, 1, ctx_start w zs⟩
  case round =>
    obtain ⟨k, hk, rfl, g, cp, hat⟩ := hrel
    by_cases hlt : k < len ∧ k < 8
    · obtain ⟨h1, h2⟩ := hlt
      have hb8 : (k : Int) < 8 := by omega
      have hz := HR.out k
      have hcell := (hat.below.cell (p := ⟨b, off + k, none⟩) (World.block_lt_of_cell? _ _ (HC.out k (by omega)))).trans (HC.out k (by omega))
      generalize hzk : zs.getD k 0 = z at hz hcell
      have HZK := Lib.hid hzk; clear hzk
      obtain ⟨hz1, hz2⟩ := hz
      have hbox5 : wr.cell? ⟨w.heap.size + 1 + 1, 5, none⟩ = some (.slice (some ⟨g, 0, none⟩) (k + 1) cp) := by simp [World.cell?, hat.box]
      have hfr5 : ∀ n, wr.frozen? ⟨w.heap.size + 1 + 1, n, none⟩ = false := by intro n; simp [World.frozen?, hat.box]
      have hfr := hfr5 5
      clear hfr5
      have hlt2 : w.heap.size + 1 + 1 < wr.heap.size := by have := hat.size; omega
      have HAT := Lib.hid hat; clear hat
      obtain ⟨i0, hi, hi0, hi1, hi2⟩ := info_parts info42
      go_wp2
      have wk : IntKind.i64.wrap ((k : Int) + 1) = (k : Int) + 1 := IntWalk.i64_in _ (by omega)
      go_region_law (first | (refine step_append_lies _ rfl (.tmp 19) (.tmp 28) 43 rfl (w.heap.size + 1) 42 i0 (.agg #[.int .i64 0, .int .i64 0, .int .i64 0]) 3 24 Try.underlying43 hi hi0 hi1 hi2 rfl (by decide) (.slice (some ⟨g, 0, none⟩) (k + 1) cp) (k + 1) (flat zs k) (by simp [Act.eval, Act.put]) (by exact HAT.out.own.alloc _) ⟨wr.heap.size, 0, none⟩ 1 1 (ctxCells (z % ((k : Int) + 1))) (by simp [Act.eval, Act.put]) rfl (by exact World.news_of_block (cs := #[.int .i64 (z % ((k : Int) + 1)), .int .i64 0, .int .i64 0]) (t := 42) (fr := (0, 0)) (alloc_last _ _)) (by simp [ctxCells, Value.oneCell']) (by omega) (by unfold maxLen; omega) (by omega) (by simp; omega) _ rfl ?_; intro g2 cp2 w2 hown2 hgrow2 hat2 hlt3; have hbx := box_far HAT.out _ hgrow2; have hcx : w2.cell? ⟨w.heap.size + 1 + 1, 5, none⟩ = some (.slice (some ⟨g, 0, none⟩) (k + 1) cp) := (by simp [World.cell?, hbx]); have hfx : w2.frozen? ⟨w.heap.size + 1 + 1, 5, none⟩ = false := (by simp [World.frozen?, hbx]); have hnx := Lib.hid (ctx_next HAT.out _ hgrow2 HZK.out hat2 hown2); clear hbx hown2 hgrow2 hat2) | (go_simp; go_at_call 8; refine (mod_any _ _ _ (by omega) (by omega) (by omega) (by omega)).mono ?_; rintro e w' ⟨rfl, rfl⟩))
      all_goals
        clear hcell hbox5 hfr
        go_wp2
        go_roundw
        case rel => exact ⟨k + 1, by omega, by go_num, g2, cp2, hnx.out⟩
        case measure => simp [intOf]; omega
    · have hk8 : k = min len 8 := by omega
      have HK := Lib.hid hk8; clear hk8
      have hc0 : wr.cell? ⟨w.heap.size + 1 + 1, 0, none⟩ = some (.string ⟨#[]⟩) := by simp [World.cell?, hat.box]
      have hc1 : wr.cell? ⟨w.heap.size + 1 + 1, 1, none⟩ = some (.int .i64 0) := by simp [World.cell?, hat.box]
      have hc2 : wr.cell? ⟨w.heap.size + 1 + 1, 2, none⟩ = some (.int .i64 0) := by simp [World.cell?, hat.box]
      have hc3 : wr.cell? ⟨w.heap.size + 1 + 1, 3, none⟩ = some (.int .i64 0) := by simp [World.cell?, hat.box]
      have hc4 : wr.cell? ⟨w.heap.size + 1 + 1, 4, none⟩ = some (.slice none 0 0) := by simp [World.cell?, hat.box]
      have hc5 : wr.cell? ⟨w.heap.size + 1 + 1, 5, none⟩ = some (.slice (some ⟨g, 0, none⟩) (k + 1) cp) := by simp [World.cell?, hat.box]
      have hc6 : wr.cell? ⟨w.heap.size + 1 + 1, 6, none⟩ = some (.slice none 0 0) := by simp [World.cell?, hat.box]
      have hc7 : wr.cell? ⟨w.heap.size + 1 + 1, 7, none⟩ = some (.slice none 0 0) := by simp [World.cell?, hat.box]
      have hc8 : wr.cell? ⟨w.heap.size + 1 + 1, 8, none⟩ = some (.slice none 0 0) := by simp [World.cell?, hat.box]
      have hc9 : wr.cell? ⟨w.heap.size + 1 + 1, 9, none⟩ = some (.slice none 0 0) := by simp [World.cell?, hat.box]
      have hc10 : wr.cell? ⟨w.heap.size + 1 + 1, 10, none⟩ = some (.slice none 0 0) := by simp [World.cell?, hat.box]
      have hr0 : wr.cell? ⟨w.heap.size, 0, none⟩ = some (.int .i64 0) := by simp [World.cell?, hat.res]
      have hr1 : wr.cell? ⟨w.heap.size, 1, none⟩ = some (.int .i64 0) := by simp [World.cell?, hat.res]
      have hr2 : wr.cell? ⟨w.heap.size, 2, none⟩ = some (.slice none 0 0) := by simp [World.cell?, hat.res]
      have hr3 : wr.cell? ⟨w.heap.size, 3, none⟩ = some (.slice none 0 0) := by simp [World.cell?, hat.res]
      have hr4 : wr.cell? ⟨w.heap.size, 4, none⟩ = some (.slice none 0 0) := by simp [World.cell?, hat.res]
      have hf0 : wr.frozen? ⟨w.heap.size, 0, none⟩ = false := by simp [World.frozen?, hat.res]
      have hf1 : wr.frozen? ⟨w.heap.size, 1, none⟩ = false := by simp [World.frozen?, hat.res]
      have hf2 : wr.frozen? ⟨w.heap.size, 2, none⟩ = false := by simp [World.frozen?, hat.res]
      have hf3 : wr.frozen? ⟨w.heap.size, 3, none⟩ = false := by simp [World.frozen?, hat.res]
      have hf4 : wr.frozen? ⟨w.heap.size, 4, none⟩ = false := by simp [World.frozen?, hat.res]
      have hlt2 : w.heap.size < wr.heap.size := by have := hat.size; omega
      have HAT := Lib.hid hat; clear hat
      by_cases hkl : k < len
      · have h8 : ¬ (k : Int) < 8 := by omega
        clear hlt
        go_wp2
        refine bodyPost_ret (v := dbgV wr.heap.size 2 2) (by simp [results, Try.results6, go_sem, hr0, hr1, hr2, hr3, hr4, hlt2]) rfl ?_
        exact ctx_done HAT.out HK.out _ _ _ _ _ _
      · clear hlt
        go_wp2
        refine bodyPost_ret (v := dbgV wr.heap.size 2 2) (by simp [results, Try.results6, go_sem, hr0, hr1, hr2, hr3, hr4, hlt2]) rfl ?_
        exact ctx_done HAT.out HK.out _ _ _ _ _ _

set_option maxHeartbeats 1000000 in
theorem contexts_nil (zs : List Int) (a : Option Addr) (cap : Nat) (w : World) :
    Calls Try.prog 6 #[.slice a 0 cap] w (CtxPost w (psOf zs (min 0 8))) := by
  go_enter Try.func6, Try.ntmps6
  go_wp2
  go_loopw [4] (fun i wr => ∃ k : Nat, k ≤ 0 ∧ i = .int .i64 k ∧ CtxRel w wr zs k) (fun i _ => 8 - (intOf i).toNat)
  case atStart => exact ⟨0, Nat.zero_le _, rfl, w.heap.size + 1, 1, ctx_start w zs⟩
  case round =>
    obtain ⟨k, hk, rfl, g, cp, hat⟩ := hrel
    have hk8 : k = min 0 8 := by omega
    have HK := Lib.hid hk8; clear hk8
    have hc0 : wr.cell? ⟨w.heap.size + 1 + 1, 0, none⟩ = some (.string ⟨#[]⟩) := by simp [World.cell?, hat.box]
    have hc1 : wr.cell? ⟨w.heap.size + 1 + 1, 1, none⟩ = some (.int .i64 0) := by simp [World.cell?, hat.box]
    have hc2 : wr.cell? ⟨w.heap.size + 1 + 1, 2, none⟩ = some (.int .i64 0) := by simp [World.cell?, hat.box]
    have hc3 : wr.cell? ⟨w.heap.size + 1 + 1, 3, none⟩ = some (.int .i64 0) := by simp [World.cell?, hat.box]
    have hc4 : wr.cell? ⟨w.heap.size + 1 + 1, 4, none⟩ = some (.slice none 0 0) := by simp [World.cell?, hat.box]
    have hc5 : wr.cell? ⟨w.heap.size + 1 + 1, 5, none⟩ = some (.slice (some ⟨g, 0, none⟩) (k + 1) cp) := by simp [World.cell?, hat.box]
    have hc6 : wr.cell? ⟨w.heap.size + 1 + 1, 6, none⟩ = some (.slice none 0 0) := by simp [World.cell?, hat.box]
    have hc7 : wr.cell? ⟨w.heap.size + 1 + 1, 7, none⟩ = some (.slice none 0 0) := by simp [World.cell?, hat.box]
    have hc8 : wr.cell? ⟨w.heap.size + 1 + 1, 8, none⟩ = some (.slice none 0 0) := by simp [World.cell?, hat.box]
    have hc9 : wr.cell? ⟨w.heap.size + 1 + 1, 9, none⟩ = some (.slice none 0 0) := by simp [World.cell?, hat.box]
    have hc10 : wr.cell? ⟨w.heap.size + 1 + 1, 10, none⟩ = some (.slice none 0 0) := by simp [World.cell?, hat.box]
    have hr0 : wr.cell? ⟨w.heap.size, 0, none⟩ = some (.int .i64 0) := by simp [World.cell?, hat.res]
    have hr1 : wr.cell? ⟨w.heap.size, 1, none⟩ = some (.int .i64 0) := by simp [World.cell?, hat.res]
    have hr2 : wr.cell? ⟨w.heap.size, 2, none⟩ = some (.slice none 0 0) := by simp [World.cell?, hat.res]
    have hr3 : wr.cell? ⟨w.heap.size, 3, none⟩ = some (.slice none 0 0) := by simp [World.cell?, hat.res]
    have hr4 : wr.cell? ⟨w.heap.size, 4, none⟩ = some (.slice none 0 0) := by simp [World.cell?, hat.res]
    have hf0 : wr.frozen? ⟨w.heap.size, 0, none⟩ = false := by simp [World.frozen?, hat.res]
    have hf1 : wr.frozen? ⟨w.heap.size, 1, none⟩ = false := by simp [World.frozen?, hat.res]
    have hf2 : wr.frozen? ⟨w.heap.size, 2, none⟩ = false := by simp [World.frozen?, hat.res]
    have hf3 : wr.frozen? ⟨w.heap.size, 3, none⟩ = false := by simp [World.frozen?, hat.res]
    have hf4 : wr.frozen? ⟨w.heap.size, 4, none⟩ = false := by simp [World.frozen?, hat.res]
    have hlt2 : w.heap.size < wr.heap.size := by have := hat.size; omega
    have HAT := Lib.hid hat; clear hat
    go_wp2
    refine bodyPost_ret (v := dbgV wr.heap.size 2 2) (by simp [results, Try.results6, go_sem, hr0, hr1, hr2, hr3, hr4, hlt2]) rfl ?_
    exact ctx_done HAT.out HK.out _ _ _ _ _ _

def stopsS (f : Int → Int → Int → Int → Int → Int → Bool) (kind s0 s1 s2 n0 n1 n2 : Int) : Bool :=
  if kind = 1 then true else if kind = 2 then !f n0 n1 n2 s0 s1 s2 else if kind = 3 then f s0 s1 s2 n0 n1 n2 else false

theorem below3' (w : World) (o1 o2 o3 : Obj) : Below w.heap.size w (((w.alloc o1).alloc o2).alloc o3) :=
  (((Below.refl _ _).alloc (Nat.le_refl _) _).alloc (by simp) _).alloc (by simp; omega) _

set_option maxHeartbeats 400000 in
theorem stops_any (ps : List Int) (bp np bc cap : Nat) (kind a0 a1 a2 b0 b1 b2 : Int) (w : World) (hl : ps.length ≤ 9) (hl0 : 0 < ps.length) (hn0 : 0 < np) (hn : np ≤ 2) (hd : IsDbg w bp np bc cap ps) :
    Calls Try.prog 11 #[dbgV bp np np, .int .i64 kind, idV a0 a1 a2, idV b0 b1 b2] w fun e w' => e = .returned (.bool (stopsS (nestedS np ps) kind a0 a1 a2 b0 b1 b2)) ∧ Below w.heap.size w w' := by
  have HD := Lib.hid hd; clear hd
  by_cases h1 : kind = 1
  · have HS := Lib.hid (show stopsS (nestedS np ps) kind a0 a1 a2 b0 b1 b2 = true by simp [stopsS, h1])
    have e1 : (kind == 1) = true := by simp [h1]
    clear h1
    go_enter Try.func11, Try.ntmps11
    go_wp2
    go_ret
    exact ⟨ret_bool HS.out.symm, below3' _ _ _ _⟩
  · have e1 : (kind == 1) = false := by simp [h1]
    by_cases h2 : kind = 2
    · have HS := Lib.hid (show stopsS (nestedS np ps) kind a0 a1 a2 b0 b1 b2 = !nestedS np ps b0 b1 b2 a0 a1 a2 by simp [stopsS, h2])
      have e2 : (kind == 2) = true := by simp [h2]
      clear h1 h2
      go_enter Try.func11, Try.ntmps11
      go_wp2_with fail
      refine (nested_any ps bp np bc cap _ _ _ _ _ _ _ hl hl0 hn0 hn (HD.out.below hn0 hl0 (below3' _ _ _ _))).mono ?_
      rintro e w' ⟨rfl, hb⟩
      go_wp2
      go_ret
      exact ⟨ret_bool HS.out.symm, (below3' _ _ _ _).trans (hb.mono (by simp; omega))⟩
    · have e2 : (kind == 2) = false := by simp [h2]
      by_cases h3 : kind = 3
      · have HS := Lib.hid (show stopsS (nestedS np ps) kind a0 a1 a2 b0 b1 b2 = nestedS np ps a0 a1 a2 b0 b1 b2 by simp [stopsS, h3])
        have e3 : (kind == 3) = true := by simp [h3]
        clear h1 h2 h3
        go_enter Try.func11, Try.ntmps11
        go_wp2_with fail
        refine (nested_any ps bp np bc cap _ _ _ _ _ _ _ hl hl0 hn0 hn (HD.out.below hn0 hl0 (below3' _ _ _ _))).mono ?_
        rintro e w' ⟨rfl, hb⟩
        go_wp2
        go_ret
        exact ⟨ret_bool HS.out.symm, (below3' _ _ _ _).trans (hb.mono (by simp; omega))⟩
      · have HS := Lib.hid (show stopsS (nestedS np ps) kind a0 a1 a2 b0 b1 b2 = false by simp [stopsS, h1, h2, h3])
        have e3 : (kind == 3) = false := by simp [h3]
        clear h1 h2 h3
        go_enter Try.func11, Try.ntmps11
        go_wp2
        go_ret
        exact ⟨ret_bool HS.out.symm, below3' _ _ _ _⟩

set_option maxHeartbeats 400000 in
theorem stopsR_any (ps : List Int) (bp np bc cap : Nat) (kind a0 a1 a2 b0 b1 b2 : Int) (w : World) (hl : ps.length ≤ 9) (hl0 : 0 < ps.length) (hn0 : 0 < np) (hn : np ≤ 2) (hd : IsDbg w bp np bc cap ps) :
    Calls Try.prog 12 #[dbgV bp np np, .int .i64 kind, idV a0 a1 a2, idV b0 b1 b2] w fun e w' => e = .returned (.bool (stopsS (nestedR np ps) kind a0 a1 a2 b0 b1 b2)) ∧ Below w.heap.size w w' := by
  have HD := Lib.hid hd; clear hd
  by_cases h1 : kind = 1
  · have HS := Lib.hid (show stopsS (nestedR np ps) kind a0 a1 a2 b0 b1 b2 = true by simp [stopsS, h1])
    have e1 : (kind == 1) = true := by simp [h1]
    clear h1
    go_enter Try.func12, Try.ntmps12
    go_wp2
    go_ret
    exact ⟨ret_bool HS.out.symm, below3' _ _ _ _⟩
  · have e1 : (kind == 1) = false := by simp [h1]
    by_cases h2 : kind = 2
    · have HS := Lib.hid (show stopsS (nestedR np ps) kind a0 a1 a2 b0 b1 b2 = !nestedR np ps b0 b1 b2 a0 a1 a2 by simp [stopsS, h2])
      have e2 : (kind == 2) = true := by simp [h2]
      clear h1 h2
      go_enter Try.func12, Try.ntmps12
      go_wp2_with fail
      refine (nestedR_any ps bp np bc cap _ _ _ _ _ _ _ hl hl0 hn0 hn (HD.out.below hn0 hl0 (below3' _ _ _ _))).mono ?_
      rintro e w' ⟨rfl, hb⟩
      go_wp2
      go_ret
      exact ⟨ret_bool HS.out.symm, (below3' _ _ _ _).trans (hb.mono (by simp; omega))⟩
    · have e2 : (kind == 2) = false := by simp [h2]
      by_cases h3 : kind = 3
      · have HS := Lib.hid (show stopsS (nestedR np ps) kind a0 a1 a2 b0 b1 b2 = nestedR np ps a0 a1 a2 b0 b1 b2 by simp [stopsS, h3])
        have e3 : (kind == 3) = true := by simp [h3]
        clear h1 h2 h3
        go_enter Try.func12, Try.ntmps12
        go_wp2_with fail
        refine (nestedR_any ps bp np bc cap _ _ _ _ _ _ _ hl hl0 hn0 hn (HD.out.below hn0 hl0 (below3' _ _ _ _))).mono ?_
        rintro e w' ⟨rfl, hb⟩
        go_wp2
        go_ret
        exact ⟨ret_bool HS.out.symm, (below3' _ _ _ _).trans (hb.mono (by simp; omega))⟩
      · have HS := Lib.hid (show stopsS (nestedR np ps) kind a0 a1 a2 b0 b1 b2 = false by simp [stopsS, h1, h2, h3])
        have e3 : (kind == 3) = false := by simp [h3]
        clear h1 h2 h3
        go_enter Try.func12, Try.ntmps12
        go_wp2
        go_ret
        exact ⟨ret_bool HS.out.symm, below3' _ _ _ _⟩

end Go.Proofs.Ytdcdbopcijjkbaa
