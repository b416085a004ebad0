/- The statement's function returns true at any two numbers, wherever the three variables are laid. Conditions: those stated in each theorem. -/
import Derived.Test.YtmikbfdpenggjaaGreatDoorCvMemos
import Derived.Test.YtmikbfdpenggjaaGreatDoorCvK0
import Derived.Test.YtmikbfdpenggjaaGreatDoorCvK1
import Derived.Test.YtmikbfdpenggjaaGreatDoorCvK2
import Derived.Test.YtmikbfdpenggjaaGreatDoorCvK3
import Derived.Test.YtmikbfdpenggjaaGreatDoorCvK4
import Derived.Test.YtmikbfdpenggjaaGreatDoorCvH
import GoSem.Claim
import GoSem.ClaimJoined
namespace Go.Proofs.YtmikbfdpenggjaaGreatDoor.Cv
open Go
noncomputable section
/-- the package variables hold what the text lays -/
structure Laid (w : World) : Prop where
  v0 : ∃ cs t fz, w.heap[0]? = some (.cells cs t fz) ∧ RC (fun _ => none) wordsL cs
  v1 : ∃ cs t fz, w.heap[1]? = some (.cells cs t fz) ∧ RC (fun _ => none) signsL cs
  v2 : ∃ cs t fz, w.heap[2]? = some (.cells cs t fz) ∧ RC (fun _ => none) opsL cs
def rho0 : Rho := fun x => if x < ng then some (x, 0) else none
theorem laid_rh {w : World} (h : Laid w) : RH rho0 H0.get H0.nx w where
  obj x o hx hd := by
    rcases H0_get hx with ⟨rfl, rfl⟩ | ⟨rfl, rfl⟩ | ⟨rfl, rfl⟩
    · obtain ⟨cs, t, fz, h1, h2⟩ := h.v0; exact ⟨0, 0, rfl, cs, t, fz, h1, h2.atom (by kernel_rfl)⟩
    · obtain ⟨cs, t, fz, h1, h2⟩ := h.v1; exact ⟨1, 0, rfl, cs, t, fz, h1, h2.atom (by kernel_rfl)⟩
    · obtain ⟨cs, t, fz, h1, h2⟩ := h.v2; exact ⟨2, 0, rfl, cs, t, fz, h1, h2.atom (by kernel_rfl)⟩
  inj x y o o' b n m hx _ ho _ _ _ := by rcases H0_get hx with ⟨rfl, rfl⟩ | ⟨rfl, rfl⟩ | ⟨rfl, rfl⟩ <;> cases ho
  kng x o hx _ _ := by rcases H0_get hx with ⟨rfl, rfl⟩ | ⟨rfl, rfl⟩ | ⟨rfl, rfl⟩ <;> decide
  big x o b n hx ho _ := by rcases H0_get hx with ⟨rfl, rfl⟩ | ⟨rfl, rfl⟩ | ⟨rfl, rfl⟩ <;> cases ho
  fresh x hx := by
    have hx : 8 ≤ x := hx
    unfold rho0
    rw [if_neg (by unfold ng; omega)]
  lt x b n hx := by
    unfold rho0 at hx
    split at hx
    · rename_i hl
      injection hx with hx; injection hx with hx _; subst hx
      unfold ng at hl
      obtain ⟨cs, t, fz, h1, _⟩ := h.v2
      have := (Array.getElem?_eq_some_iff.1 h1).1
      omega
    · cases hx
  glob g hg := ⟨0, by unfold rho0; rw [if_pos hg]⟩
theorem run_all (a b : Nat) (ha : a < 5) (hb : b < 3) : okT (callN M3 20000 3 [.md 5 a, .md 3 b] H0) = true := by
  obtain rfl | rfl | rfl | rfl | rfl : a = 0 ∨ a = 1 ∨ a = 2 ∨ a = 3 ∨ a = 4 := by omega
  all_goals (obtain rfl | rfl | rfl : b = 0 ∨ b = 1 ∨ b = 2 := by omega)
  · exact run00
  · exact run01
  · exact run02
  · exact run10
  · exact run11
  · exact run12
  · exact run20
  · exact run21
  · exact run22
  · exact run30
  · exact run31
  · exact run32
  · exact run40
  · exact run41
  · exact run42
/-- BuildErrors returns true, and leaves every block that was there -/
theorem buildErrors_any (x y : Int) (w : World) (h : Laid w) :
    Calls Go.Proofs.Tryz.prog 3 #[.int .i64 x, .int .i64 y] w fun e w' => e = .returned (.bool true) ∧ w.heap.size ≤ w'.heap.size ∧ (∀ b, b < w.heap.size → w'.heap[b]? = w.heap[b]?) ∧ Like w w' := by
  obtain ⟨R, H', hr⟩ := okT_some (run_all (x % 5).toNat (y % 3).toNat (by omega) (by omega))
  have hvs : RVs rho0 [.md 5 (x % 5).toNat, .md 3 (y % 3).toNat] [.int .i64 x, .int .i64 y] :=
    ⟨_, _, rfl, ⟨x, rfl, by omega⟩, _, _, rfl, ⟨y, rfl, by omega⟩, rfl⟩
  rw [← Pg_eq]
  refine (calls_of pgOk memo3 rfl hr (laid_rh h) hvs).mono ?_
  rintro e w' ⟨v', ρ', rfl, hv, _, ht⟩
  have hv : v' = .bool true := hv
  subst hv
  refine ⟨rfl, ht.size, fun b hb => ht.keep b hb ?_, ht.lk⟩
  rintro ⟨z, o, n, hz, ho, _⟩
  rcases H0_get hz with ⟨rfl, rfl⟩ | ⟨rfl, rfl⟩ | ⟨rfl, rfl⟩ <;> cases ho
end
end Go.Proofs.YtmikbfdpenggjaaGreatDoor.Cv
namespace Go.Proofs.YtmikbfdpenggjaaGreatDoor.Cv
open Go
noncomputable section
theorem mapM_get {α β : Type} {f : α → Option β} : ∀ {l : List α} {r : List β}, l.mapM f = some r → ∀ (i : Nat) (x : β), r[i]? = some x → ∃ a, l[i]? = some a ∧ f a = some x
  | [], r, h, i, x, hx => by
    rw [List.mapM_nil] at h
    injection h with h; subst h
    simp at hx
  | a :: l, r, h, i, x, hx => by
    rw [List.mapM_cons] at h
    simp only [Option.bind_eq_bind, Option.bind_eq_some_iff, Option.pure_def, Option.some.injEq] at h
    obtain ⟨y, hy, ys, hys, rfl⟩ := h
    cases i with
    | zero => simp at hx; subst hx; exact ⟨a, rfl, hy⟩
    | succ i => simp at hx; obtain ⟨c, h1, h2⟩ := mapM_get hys i x hx; exact ⟨c, by simpa using h1, h2⟩
/-- the bytes of a text -/
def bytesD : DataW Unit → Option (List UInt8)
  | .lit (.string b) => some b
  | _ => none
theorem str_of_trod {P : Program} {w : World} {base : Nat} {sp : Nat → Bool} {held : Bool} {fuel : Nat} {t : TypeId} {cs : List Value} {d : DataW Unit} {p : List MemPlace} {bs : List UInt8}
    (ht : P.underlying t = some .string) (h : DataW.trod (fun _ => ()) P w base sp held fuel t cs = some (d, p)) (hd : bytesD d = some bs) : ∃ s : ByteArray, cs = [.string s] ∧ s.data.toList = bs := by
  cases fuel with
  | zero => simp [DataW.trod] at h
  | succ fuel =>
    match cs, h with
    | [], h => simp [DataW.trod, ht] at h
    | a :: b :: r, h => simp [DataW.trod, ht] at h
    | [c], h =>
      cases c <;> simp [DataW.trod, ht] at h
      obtain ⟨_, rfl, _⟩ := h
      injection hd with hd
      exact ⟨_, rfl, hd⟩
theorem arr_of_trod {P : Program} {w : World} {base : Nat} {sp : Nat → Bool} {held : Bool} {fuel : Nat} {t e : TypeId} {n : Nat} {cs : List Value} {ds : List (DataW Unit)} {p : List MemPlace}
    (ht : P.underlying t = some (.array n e)) (he : P.underlying e = some .string) (hc : P.cellsOf e = 1) (h : DataW.trod (fun _ => ()) P w base sp held fuel t cs = some (.agg ds, p))
    (i : Nat) (d : DataW Unit) (hd : ds[i]? = some d) (bs : List UInt8) (hb : bytesD d = some bs) : ∃ s : ByteArray, cs[i]? = some (.string s) ∧ s.data.toList = bs := by
  cases fuel with
  | zero => simp [DataW.trod] at h
  | succ fuel =>
    simp only [DataW.trod, ht] at h
    split at h
    · simp only [Option.map_eq_some_iff, Prod.mk.injEq, DataW.agg.injEq] at h
      obtain ⟨xs, hx, rfl, _⟩ := h
      rw [List.getElem?_map, Option.map_eq_some_iff] at hd
      obtain ⟨x, hx1, rfl⟩ := hd
      obtain ⟨j, hj, hf⟩ := mapM_get hx i x hx1
      rw [List.getElem?_range] at hj
      · injection hj with hj; subst hj
        obtain ⟨s, h1, h2⟩ := str_of_trod (p := x.2) he hf hb
        refine ⟨s, ?_, h2⟩
        rw [hc, Nat.mul_one] at h1
        have : ((cs.drop i).take 1)[0]? = some (Value.string s) := by rw [h1]; rfl
        simpa using this
      · exact Classical.byContradiction fun hn => by
          rw [List.getElem?_eq_none (by simp; omega)] at hj; cases hj
    · cases h
/-- a text as the evaluator has it -/
def dV (d : DataW Unit) : V := match bytesD d with
  | some b => .s (byteL b)
  | none => .un
def isTx (d : DataW Unit) : Bool := match bytesD d with
  | some _ => true
  | none => false
theorem rc_of_trod {P : Program} {w : World} {base : Nat} {sp : Nat → Bool} {held : Bool} {fuel : Nat} {t e : TypeId} {n : Nat} {cs : Array Value} {ds : List (DataW Unit)} {p : List MemPlace} {l : List V}
    (ht : P.underlying t = some (.array n e)) (he : P.underlying e = some .string) (hc : P.cellsOf e = 1) (h : DataW.trod (fun _ => ()) P w base sp held fuel t cs.toList = some (.agg ds, p))
    (ha : ds.all isTx = true) (hl : ds.map dV = l) : RC (fun _ => none) l cs := by
  subst hl
  have key : ∀ (i : Nat) (x : V), (ds.map dV)[i]? = some x → ∃ v, cs[i]? = some v ∧ RV (fun _ => none) x v := by
    intro i x hx
    rw [List.getElem?_map, Option.map_eq_some_iff] at hx
    obtain ⟨d, hd, rfl⟩ := hx
    have hm := List.all_eq_true.1 ha d (List.mem_of_getElem? hd)
    unfold isTx at hm
    split at hm
    · rename_i b hb
      obtain ⟨s, h1, h2⟩ := arr_of_trod ht he hc h i d hd b hb
      refine ⟨.string s, by simpa using h1, ?_⟩
      unfold dV
      rw [hb]
      exact ⟨s, rfl, by rw [h2]⟩
    · cases hm
  refine ⟨?_, key⟩
  apply Classical.byContradiction
  intro hn
  have hlt : cs.size < (ds.map dV).length := Nat.lt_of_not_le hn
  obtain ⟨v, hv, _⟩ := key cs.size _ (List.getElem?_eq_getElem hlt)
  simp at hv
theorem kept_of {w w' : World} (hk : ∀ b, b < w.heap.size → w'.heap[b]? = w.heap[b]?) (lk : Like w w') (may : MemPlace → Prop) : w.keptBut w' may := by
  refine ⟨lk.1, lk.2, fun i hi => ?_⟩
  rw [hk i hi]
  cases h : w.heap[i]? with
  | none => rfl
  | some o => cases o <;> simp
end
end Go.Proofs.YtmikbfdpenggjaaGreatDoor.Cv
