/- Closed facts on the seat's program. Conditions: those stated in each theorem. -/
import Derived.Test.YtmikbfdpenggjaaGreatDoorCvH
import Derived.KernelRfl
import Derived.Laws.Externs
namespace Go.Proofs.YtmikbfdpenggjaaGreatDoor.Cv
open Go
noncomputable section
theorem Pg_eq : Pg = Go.Proofs.Tryz.prog := by kernel_rfl
def zeroChk : Option TypeInfo → Bool
  | some i => match i.zero with
    | some z => Nat.beq z.cells.size i.size
    | none => true
  | none => true
def elemIn : Option TypeInfo → Bool
  | some i => i.zero.isSome
  | none => true
def fieldChk : List Field → Bool
  | [] => true
  | f :: r => match (Pg.info? f.type).isSome with
    | true => fieldChk r
    | false => false
def descChk : Option TypeDesc → Bool
  | some (.slice e) => both (Nat.blt e nT) (elemIn (Pg.info? e))
  | some (.struct fs) => fieldChk fs.toList
  | _ => true
def typesChk : Nat → Bool
  | 0 => true
  | t + 1 => match both (zeroChk (Pg.info? t)) (descChk (Pg.underlying t)) with
    | true => typesChk t
    | false => false
def namesChk : List Func → Bool
  | [] => true
  | f :: r => match f.name == "runtime.NumGoroutine" with
    | true => false
    | false => namesChk r
theorem types_ok : typesChk nT = true := by kernel_rfl
theorem names_ok : namesChk Pg.funcs.toList = true := by kernel_rfl
theorem typesChk_get : ∀ n t, typesChk n = true → t < n → zeroChk (Pg.info? t) = true ∧ descChk (Pg.underlying t) = true
  | 0, t, _, h => absurd h (Nat.not_lt_zero t)
  | n + 1, t, h, hl => by
    unfold typesChk at h
    split at h
    · rename_i hb
      by_cases e : t = n
      · subst e; exact both_true hb
      · exact typesChk_get n t h (by omega)
    · cases h
theorem namesChk_get : ∀ (l : List Func) (i : Nat) (f : Func), namesChk l = true → l[i]? = some f → (f.name == "runtime.NumGoroutine") = false
  | [], i, f, _, h => by simp at h
  | g :: r, i, f, hn, h => by
    unfold namesChk at hn
    split at hn
    · cases hn
    · rename_i hg
      cases i with
      | zero => simp only [List.getElem?_cons_zero, Option.some.injEq] at h; subst h; exact hg
      | succ i => simp only [List.getElem?_cons_succ] at h; exact namesChk_get r i f hn h
theorem fieldChk_get : ∀ (l : List Field), fieldChk l = true → ∀ f ∈ l, ∃ i, Pg.info? f.type = some i
  | [], _, f, h => by simp at h
  | g :: r, hn, f, h => by
    unfold fieldChk at hn
    split at hn
    · rename_i hg
      rcases List.mem_cons.1 h with h | h
      · subst h; exact Option.isSome_iff_exists.1 hg
      · exact fieldChk_get r hn f h
    · cases hn
theorem ov_und : Pg.underlying 235 = some (.slice 247) := by kernel_rfl
theorem ov_siz : siz 247 = some 11 := by kernel_rfl
theorem ov_fn : Pg.funcs[309]? = some Go.Proofs.Tryz.f309 := by kernel_rfl
theorem pgOk : PgOk where
  zero := fun t i z ht hi hz => by
    have h := (typesChk_get nT t types_ok ht).1
    rw [hi] at h
    have h : (match i.zero with | some z => Nat.beq z.cells.size i.size | none => true) = true := h
    rw [hz] at h
    exact of_beq h
  elem := fun t e i ht hd hi => by
    have h := (typesChk_get nT t types_ok ht).2
    rw [hd] at h
    obtain ⟨h1, h2⟩ := both_true h
    rw [hi] at h2
    exact ⟨of_blt h1, Option.isSome_iff_exists.1 h2⟩
  fields := fun t fs ht hd => by
    have h := (typesChk_get nT t types_ok ht).2
    rw [hd] at h
    exact fieldChk_get fs.toList h
  name := fun f fn h => namesChk_get _ f fn names_ok (by simpa using h)
  mixed := by kernel_rfl
  ov := ⟨235, 4, 247, 11, ov_und, ov_siz, fun args w => run_callFunc_extern ov_fn (by kernel_rfl) (by kernel_rfl) (by kernel_rfl) (by kernel_rfl) args w⟩
end
end Go.Proofs.YtmikbfdpenggjaaGreatDoor.Cv
