/- BuildErrors: for every two numbers the statement returns true and leaves its arguments and all memory as they were. Condition (the row's own): the three listed package variables read as the text lays them. -/
import Derived.Test.YtmikbfdpenggjaaGreatDoorRows
import Derived.Test.YtmikbfdpenggjaaGreatDoorCvBe
import Derived.Test.YtmikbfdpenggjaaGreatDoorCvFa
import Derived.Test.YtmikbfdpenggjaaGreatDoorCvFb
import Derived.Test.YtmikbfdpenggjaaGreatDoorCvFc
import Derived.ChangeSame
import Derived.ChangeVars
import Derived.JoinedOf
import Derived.RowKit
import Derived.RowKitTokens
import Derived.LaidLaws
import Derived.LaidHandle
import Derived.LaidMore
import Derived.Stop.Joined
namespace Go.Proofs.YtmikbfdpenggjaaGreatDoor
open Go.ChangeShapes Go.WideShapes Go.RowKit

theorem Tryz.own : ownKnob Tryz.prog.godebug = none := by kernel_rfl
theorem Tryz.g0 : Tryz.prog.globalNamed "debugger/lexer.words" = some 0 := by kernel_rfl
theorem Tryz.g1 : Tryz.prog.globalNamed "debugger/lexer.signs" = some 1 := by kernel_rfl
theorem Tryz.g2 : Tryz.prog.globalNamed "debugger/parser.operators" = some 2 := by kernel_rfl
abbrev laid : List (String × DataW Unit) := [("debugger/lexer.words", Rows.laid_debugger_lexer_words), ("debugger/lexer.signs", Rows.laid_debugger_lexer_signs), ("debugger/parser.operators", Rows.laid_debugger_parser_operators)]
/-- the type of a variable: an array of texts -/
noncomputable def textsB (g : Nat) : Bool := match (Tryz.prog.globals[g]?).map (·.type) with
  | some t => match Tryz.prog.underlying t with
    | some (.array _ e) => (match Tryz.prog.underlying e with
      | some .string => true
      | _ => false) && Tryz.prog.cellsOf e == 1
    | _ => false
  | none => false
theorem texts_of {g : Nat} (h : textsB g = true) {t : TypeId} (ht : (Tryz.prog.globals[g]?).map (·.type) = some t) : ∃ n e, Tryz.prog.underlying t = some (.array n e) ∧ Tryz.prog.underlying e = some .string ∧ Tryz.prog.cellsOf e = 1 := by
  unfold textsB at h
  rw [ht] at h
  simp only at h
  split at h
  · rename_i n e he
    rw [Bool.and_eq_true] at h
    obtain ⟨h1, h2⟩ := h
    split at h1
    · rename_i hs
      exact ⟨n, e, he, hs, by simpa using h2⟩
    · cases h1
  · cases h
theorem var_block {W : World} {n : String} {g : Nat} {cs : Array Value} (hg : Tryz.prog.globalNamed n = some g) (h : W.var? Tryz.prog n = some cs) : ∃ t fz, W.heap[g]? = some (.cells cs t fz) := by
  unfold World.var? at h
  rw [hg] at h
  simp only [Option.bind_some] at h
  split at h
  · rename_i c t fz he
    injection h with h; subst h
    exact ⟨t, fz, he⟩
  · cases h
theorem laid_of {W : World} (h : laidMetH Tryz.prog laid W) : Cv.Laid W := by
  have h' : laidMet Tryz.prog laid W := h
  obtain ⟨ps, ⟨g0, t0, c0, f0, p0, q0, a0, b0, v0, d0, ⟨g1, t1, c1, f1, p1, q1, a1, b1, v1, d1, ⟨g2, t2, c2, f2, p2, q2, a2, b2, v2, d2, _, _⟩, _⟩, _⟩, _⟩ := h'
  obtain rfl := Option.some.inj (Tryz.g0.symm.trans a0)
  obtain rfl := Option.some.inj (Tryz.g1.symm.trans a1)
  obtain rfl := Option.some.inj (Tryz.g2.symm.trans a2)
  obtain ⟨n0, e0, x0, y0, z0⟩ := texts_of (by kernel_rfl) b0
  obtain ⟨n1, e1, x1, y1, z1⟩ := texts_of (by kernel_rfl) b1
  obtain ⟨n2, e2, x2, y2, z2⟩ := texts_of (by kernel_rfl) b2
  obtain ⟨s0, k0, m0⟩ := var_block Tryz.g0 v0
  obtain ⟨s1, k1, m1⟩ := var_block Tryz.g1 v1
  obtain ⟨s2, k2, m2⟩ := var_block Tryz.g2 v2
  exact ⟨⟨c0, s0, k0, m0, Cv.rc_of_trod x0 y0 z0 d0 (by kernel_rfl) (by kernel_rfl)⟩, ⟨c1, s1, k1, m1, Cv.rc_of_trod x1 y1 z1 d1 (by kernel_rfl) (by kernel_rfl)⟩, ⟨c2, s2, k2, m2, Cv.rc_of_trod x2 y2 z2 d2 (by kernel_rfl) (by kernel_rfl)⟩⟩

/-- a world that meets the condition: the three rows laid -/
def txt (l : List UInt8) : Value := .string ⟨l.toArray⟩
def row0 : Array Value := #[txt [114, 101, 99, 111, 114, 100], txt [102, 117, 110, 99], txt [118, 97, 114], txt [105, 110, 116], txt [105, 102], txt [101, 108, 115, 101], txt [119, 104, 105, 108, 101], txt [114, 101, 116, 117, 114, 110], txt [116, 104, 114, 111, 119], txt [116, 114, 121], txt [99, 97, 116, 99, 104], txt [112, 114, 105, 110, 116]]
def row1 : Array Value := #[txt [60, 61], txt [61, 61], txt [33, 61], txt [40], txt [41], txt [123], txt [125], txt [91], txt [93], txt [44], txt [59], txt [58], txt [46], txt [43], txt [45], txt [42], txt [47], txt [37], txt [38], txt [124], txt [94], txt [60], txt [61], txt [33]]
def row2 : Array Value := #[txt [43], txt [45], txt [42], txt [47], txt [37], txt [38], txt [124], txt [94], txt [60], txt [60, 61], txt [61, 61], txt [33, 61]]
def lay (cs : Array Value) : Obj → Obj
  | .cells _ t frozen => .cells cs t frozen
  | o => o
noncomputable def laidWorld (os : Os) : World :=
  { World.holding Tryz.prog os ⟨#[], #[], []⟩ with heap := (((World.holding Tryz.prog os ⟨#[], #[], []⟩).heap.modify 0 (lay row0)).modify 1 (lay row1)).modify 2 (lay row2) }
theorem laidWorld_met (os : Os) (args : Array Value) : laidMetH Tryz.prog laid ((laidWorld os).forCall (fun _ _ => 0) ⟨#[], args, []⟩).memory :=
  laidMetH_of_parts (laidMet_of_run' 8 (by kernel_rfl) (by kernel_rfl)) (by kernel_rfl)

set_option maxRecDepth 100000 in
theorem law_lifted (os : Os) (started : os.Started) (H : Type) (enc : TypeId × Value → H) :
    ReturnsInHanded {} Tryz.checked os 3 .any (fun w args => (Rows.buildErrorsSpec.pre enc Tryz.prog Tryz.f3 [] false w args ∧ laidMetH Tryz.prog laid w) ∧ sizedMet enc Tryz.prog Tryz.f3 (OpenSpec.ofChange Rows.buildErrorsSpec) false w args)
      (Rows.buildErrorsSpec.post enc Tryz.prog Tryz.f3 false true false false) := by
  refine returnsInHanded_of_change_and (C := Tryz.checked) (X := fun w _ => laidMetH Tryz.prog laid w) (fun _ _ _ hh h => h.of_heap hh) Tryz.own started (by kernel_rfl) Tryz.func3
    (ChangeSpec.witness_at (enc := enc) (C := Tryz.checked) (os := os) (X := fun w _ => laidMetH Tryz.prog laid w) false (laidWorld os) #[.int .i64 0, .int .i64 0] 8 rfl (by kernel_rfl) (by kernel_rfl) (by kernel_rfl) (by kernel_rfl) (by kernel_rfl) (laidWorld_met os _)) ?_
  intro W base args ds gs before hval0 hW _ _ hL _
  have hval : ∀ (j : Nat) t v, Tryz.f3.params[j]? = some t → args[j]? = some v → Value.okWide Tryz.prog W .any base t v := hval0
  have hW' := hW
  obtain ⟨p, q, hA0, hV, rfl, hfz, hnd⟩ := hW
  have hA : DataW.TrodAll enc Tryz.prog W 0 (fun _ => true) true Tryz.f3.params.toList args.toList ds p := hA0
  rw [Tryz.params3] at hA hval
  obtain ⟨v0, v1, d0, d1, p0, p1, rfl, rfl, rfl, h0, h1⟩ := trodAll_two hA
  obtain ⟨x, rfl, rfl, rfl, hx⟩ := open_int Tryz.underlying3 (hval 0 3 v0 rfl rfl) h0
  obtain ⟨y, rfl, rfl, rfl, hy⟩ := open_int Tryz.underlying3 (hval 1 3 v1 rfl rfl) h1
  obtain ⟨rfl, rfl⟩ := trodVars_none hV
  refine (Cv.buildErrors_any x y W (laid_of hL)).mono fun e W' ⟨he, _, hk, lk⟩ => ?_
  subst he
  have e1 : Rows.buildErrorsSpec.fn H ([.lit (.int .i64 x), .lit (.int .i64 y)] ++ []) = { results := [.lit (.bool true)], args := [.lit (.int .i64 x), .lit (.int .i64 y)] } := by simp [Rows.buildErrorsSpec]
  refine ⟨_, rfl, _, _, _, [], [] ++ [], [], hW', ?_, ?_, ?_, Cv.kept_of hk lk _, fun h => by cases h⟩
  · rw [e1]; exact trodAll_mk1 (shut_bool Tryz.underlying4 true)
  · rw [e1]; exact trodAll_mk2 (shut_int Tryz.underlying3 hx) (shut_int Tryz.underlying3 hy)
  · rw [e1]; rfl

theorem and2 {a b : Bool} (ha : a = true) (hb : b = true) : (a && b) = true := by rw [ha, hb]; rfl
theorem facts : joinedFacts Tryz.prog 3 Tryz.f3 Rows.buildErrorsSpec Rows.buildErrorsRow = true := by
  unfold joinedFacts
  exact and2 (and2 (and2 (and2 (and2 (and2 (and2 (and2 (and2 (and2 (and2 (and2 (and2 (and2 (and2 (and2 (and2 (and2 (and2 (and2 (and2 (and2 (and2 (and2 (and2 (and2 (and2 (and2 (and2 (and2 (and2 (by kernel_rfl) fact_lay) fact_rowed) (by kernel_rfl)) (by kernel_rfl)) (by kernel_rfl)) (by kernel_rfl)) (by kernel_rfl)) (by kernel_rfl)) fact_inPlace) fact_unf) fact_rcs) fact_nam) (by kernel_rfl)) (by kernel_rfl)) (by kernel_rfl)) (by kernel_rfl)) (by kernel_rfl)) (by kernel_rfl)) (by kernel_rfl)) (by kernel_rfl)) (by kernel_rfl)) (by kernel_rfl)) (by kernel_rfl)) fact_heard) fact_enter) (by kernel_rfl)) (by kernel_rfl)) (by kernel_rfl)) (by kernel_rfl)) (by kernel_rfl)) (by kernel_rfl)
theorem buildErrors_row : Rows.BuildErrorsSaid :=
  OpenClaim.holds_of_wide 3 Tryz.f3 rfl rfl rfl rfl rfl rfl rfl ⟨rfl, rfl, rfl, rfl, rfl⟩ rfl rfl rfl rfl rfl fact_name Tryz.func3 facts
    (of_decide_eq_true (by kernel_rfl)) (by unfold Func.isWrapper; first | (rw [if_pos (by decide +kernel)]; kernel_rfl) | (rw [if_neg (by decide +kernel)]; exact ⟨rfl, rfl⟩))
    (fun os started H enc _ => law_lifted os started H enc)
end Go.Proofs.YtmikbfdpenggjaaGreatDoor
