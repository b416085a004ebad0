/- The calls known beforehand are right. Conditions: those stated in each theorem. -/
import Derived.Test.YtmikbfdpenggjaaGreatDoorCvKi
import Derived.Test.YtmikbfdpenggjaaGreatDoorCvKp
import Derived.Test.YtmikbfdpenggjaaGreatDoorCvKu0
import Derived.Test.YtmikbfdpenggjaaGreatDoorCvKu1
import Derived.Test.YtmikbfdpenggjaaGreatDoorCvKu2
import Derived.Test.YtmikbfdpenggjaaGreatDoorCvKb0
import Derived.Test.YtmikbfdpenggjaaGreatDoorCvKb1
import Derived.Test.YtmikbfdpenggjaaGreatDoorCvKb2
import Derived.Test.YtmikbfdpenggjaaGreatDoorCvKn
import Derived.Test.YtmikbfdpenggjaaGreatDoorCvMod
namespace Go.Proofs.YtmikbfdpenggjaaGreatDoor.Cv
open Go
noncomputable section
theorem memo0 : MemoOk M0 := fun _ _ _ _ _ _ h => by cases h
theorem has_body {f : Nat} (h : (Pg.funcs[f]?.bind (·.body)).isSome = true) : ∃ fn c, Pg.funcs[f]? = some fn ∧ fn.body = some c := by
  obtain ⟨c, hc⟩ := Option.isSome_iff_exists.1 h
  obtain ⟨fn, h1, h2⟩ := Option.bind_eq_some_iff.1 hc
  exact ⟨fn, c, h1, h2⟩
theorem body234 : (Pg.funcs[234]?.bind (·.body)).isSome = true := by kernel_rfl
theorem body11 : (Pg.funcs[11]?.bind (·.body)).isSome = true := by kernel_rfl
theorem body7 : (Pg.funcs[7]?.bind (·.body)).isSome = true := by kernel_rfl
theorem body5 : (Pg.funcs[5]?.bind (·.body)).isSome = true := by kernel_rfl
theorem body6 : (Pg.funcs[6]?.bind (·.body)).isSome = true := by kernel_rfl
theorem body4 : (Pg.funcs[4]?.bind (·.body)).isSome = true := by kernel_rfl
theorem ins1 : InsOk M0 2000 234 1 insL1 insV1 insL2 := ⟨rfl, rfl, rfl, rfl, fun _ _ => rfl, ⟨10, 247, 0, by decide, grow1⟩, fun d => ⟨0, 0, fit1 d⟩⟩
theorem ins2 : InsOk M0 2000 234 2 insL2 insV2 insL3 := ⟨rfl, rfl, rfl, rfl, fun _ _ => rfl, ⟨10, 247, 0, by decide, grow2⟩, fun d => ⟨0, 0, fit2 d⟩⟩
theorem notB_true {b : Bool} (h : notB b = true) : b = false := by cases b <;> first | rfl | cases h
theorem insA_ok {args : List V} {H : Hp} {e : E} {R' : Option V} {H' : Hp} (h : insA H args = .ok e R' H') {ρ : Rho} {vs : List Value} {w : World} (r : RH ρ H.get H.nx w) (hvs : RVs ρ args vs) (c : Frame) (cs : List Frame) :
    CallGoes ρ H w (lone (Frame.enter Pg 234 vs.toArray .normal) (c :: cs) w) c cs e H' := by
  unfold insA at h
  split at h
  · rename_i x o len cap esz n y o' cl cc es
    unfold insSl at h
    split at h
    · rename_i hck
      obtain ⟨h1, h2⟩ := both_true hck
      obtain ⟨h3, h4⟩ := both_true h1
      obtain ⟨h5, h6⟩ := both_true h3
      obtain ⟨h7, h8⟩ := both_true h4
      obtain ⟨h9, h10⟩ := both_true h2
      obtain ⟨h11, h12⟩ := both_true h9
      obtain ⟨h13, h14⟩ := both_true h10
      have e5 := of_beq h5; have e6 := of_beq h6; have e7 := of_beq h7; have e11 := of_beq h11; have e12 := of_beq h12; have e13 := of_beq h13; have e14 := of_beq h14
      rw [eqI_eq] at h8
      have e8 := of_decide_eq_true h8
      subst e5 e6 e7 e8 e11 e12 e13 e14
      unfold insTwo at h
      split at h
      · rename_i lx e1 ly e2 hx hy
        split at h
        · rename_i hl
          have hl := of_beq hl
          subst hl
          unfold insGo1 at h
          split at h
          · rename_i hck
            obtain ⟨k1, k2⟩ := both_true hck
            obtain ⟨k2, k3⟩ := both_true k2
            have k1 := of_beq_f (notB_true k1)
            rw [sameL_eq _ _ k2] at hx
            rw [sameL_eq _ _ k3] at hy
            injection h with h a b; subst h a b
            exact insert_goes pgOk memo0 ins1 r hx hy k1 hvs c cs
          · cases h
        · unfold insGo1 at h
          split at h
          · rename_i hck
            obtain ⟨k0, k2⟩ := both_true hck
            obtain ⟨hl, k1⟩ := both_true k0
            have hl := of_beq hl
            subst hl
            obtain ⟨k2, k3⟩ := both_true k2
            have k1 := of_beq_f (notB_true k1)
            rw [sameL_eq _ _ k2] at hx
            rw [sameL_eq _ _ k3] at hy
            injection h with h a b; subst h a b
            exact insert_goes pgOk memo0 ins2 r hx hy k1 hvs c cs
          · cases h
      · cases h
    · cases h
  · cases h
theorem memo1 : MemoOk M1 := by
  intro f args H e R' H' h
  have h : (match Nat.beq f 234 with | true => insA H args | false => .no) = CRes.ok e R' H' := h
  split at h
  · rename_i hf
    have hf := of_beq hf
    subst hf
    exact ⟨has_body body234, fun ρ vs c cs w r hvs => insA_ok h r hvs c cs⟩
  · cases h
/-! the package variables -/
theorem H0_get {x : Nat} {o : O} (h : H0.get x = some o) : (x = 0 ∧ o = .k wordsL) ∨ (x = 1 ∧ o = .k signsL) ∨ (x = 2 ∧ o = .k opsL) := by
  have h : Tr.get (.n (some (.k wordsL)) (.n (some (.k signsL)) .e .e) (.n (some (.k opsL)) .e .e)) x = some o := h
  rw [Tr.get_n] at h
  simp only [Tr.get_n, Tr.get_e] at h
  split at h
  · rename_i e; injection h with h; exact .inl ⟨by first | exact e | exact of_beq e, h.symm⟩
  · split at h
    · split at h
      · injection h with h; exact .inr (.inl ⟨by first | omega | (simp_all; omega), h.symm⟩)
      · split at h <;> cases h
    · split at h
      · injection h with h; exact .inr (.inr ⟨by first | omega | (simp_all; omega), h.symm⟩)
      · split at h <;> cases h
theorem kIs_some {l : List V} {o : Option O} (h : kIs l o = true) : o = some (.k l) := by
  unfold kIs at h
  split at h
  · rw [sameL_eq _ _ h]
  · cases h
theorem vars_in {H : Hp} (h : varsB H = true) : VarsIn H0 H.get := by
  obtain ⟨h1, h2⟩ := both_true h
  obtain ⟨h2, h3⟩ := both_true h2
  intro x o hx
  rcases H0_get hx with ⟨rfl, rfl⟩ | ⟨rfl, rfl⟩ | ⟨rfl, rfl⟩
  · exact ⟨by decide, _, rfl, by kernel_rfl, kIs_some h1⟩
  · exact ⟨by decide, _, rfl, by kernel_rfl, kIs_some h2⟩
  · exact ⟨by decide, _, rfl, by kernel_rfl, kIs_some h3⟩
theorem tplA_ok {M : Memo} (hM : MemoOk M) {f : Nat} {fargs : List V} {zs : List Nat} {os : List (List V × Nat)} {v : V} (hm : M f fargs H0 = .no) (hat : atomL fargs = true) (hrun : tplChk zs os v (callN M 20000 f fargs H0) = true)
    {args : List V} {H : Hp} {els : CRes} {e : E} {R' : Option V} {H' : Hp} (h : tplA fargs os v H args els = .ok e R' H') {ρ : Rho} {vs : List Value} {w : World} (r : RH ρ H.get H.nx w) (hvs : RVs ρ args vs) (c : Frame) (cs : List Frame)
    (k : els = .ok e R' H' → CallGoes ρ H w (lone (Frame.enter Pg f vs.toArray .normal) (c :: cs) w) c cs e H') :
    CallGoes ρ H w (lone (Frame.enter Pg f vs.toArray .normal) (c :: cs) w) c cs e H' := by
  unfold tplA at h
  split at h
  · rename_i ha
    have ha := sameL_eq _ _ ha
    subst ha
    unfold tplGo at h
    split at h
    · rename_i hv
      injection h with h a b; subst h a b
      obtain ⟨v', R, H2, h1, h2⟩ := tplChk_some hrun
      exact tpl_goes pgOk hM hm h1 hat rfl h2 r (vars_in hv) hvs c cs
    · cases h
  · exact k h
theorem memoP : MemoOk Mp := by
  intro f args H e R' H' h
  have h : (match Nat.beq f 234 with | true => insA H args | false => match Nat.beq f 11 with | true => parseA H args | false => .no) = CRes.ok e R' H' := h
  split at h
  · rename_i hf
    have hf := of_beq hf
    subst hf
    exact ⟨has_body body234, fun ρ vs c cs w r hvs => insA_ok h r hvs c cs⟩
  · split at h
    · rename_i hf
      have hf := of_beq hf
      subst hf
      exact ⟨has_body body11, fun ρ vs c cs w r hvs => tplA_ok memo1 rfl (by kernel_rfl) parse_run h r hvs c cs (fun h => by cases h)⟩
    · cases h
theorem memoU : MemoOk Mu := by
  intro f args H e R' H' h
  have h : (match Nat.beq f 7 with | true => unitA H args | false => .no) = CRes.ok e R' H' := h
  split at h
  · rename_i hf
    have hf := of_beq hf
    subst hf
    exact ⟨has_body body7, fun ρ vs c cs w r hvs => tplA_ok memoP rfl (by kernel_rfl) unit_run0 h r hvs c cs fun h => tplA_ok memoP rfl (by kernel_rfl) unit_run1 h r hvs c cs fun h => tplA_ok memoP rfl (by kernel_rfl) unit_run2 h r hvs c cs (fun h => by cases h)⟩
  · cases h
theorem memoB : MemoOk Mb := by
  intro f args H e R' H' h
  have h : (match Nat.beq f 5 with | true => buildA H args | false => .no) = CRes.ok e R' H' := h
  split at h
  · rename_i hf
    have hf := of_beq hf
    subst hf
    exact ⟨has_body body5, fun ρ vs c cs w r hvs => tplA_ok memoU rfl (by kernel_rfl) build_run0 h r hvs c cs fun h => tplA_ok memoU rfl (by kernel_rfl) build_run1 h r hvs c cs fun h => tplA_ok memoU rfl (by kernel_rfl) build_run2 h r hvs c cs (fun h => by cases h)⟩
  · cases h
theorem modA_ok {args : List V} {H : Hp} {e : E} {R' : Option V} {H' : Hp} (h : modA H args = .ok e R' H') {ρ : Rho} {vs : List Value} {w : World} (r : RH ρ H.get H.nx w) (hvs : RVs ρ args vs) (c : Frame) (cs : List Frame) :
    CallGoes ρ H w (lone (Frame.enter Pg 4 vs.toArray .normal) (c :: cs) w) c cs e H' := by
  unfold modA at h
  split at h
  · rename_i m q m'
    unfold modGo at h
    split at h
    · rename_i hck
      obtain ⟨h1, h2⟩ := both_true hck
      obtain ⟨h2, h3⟩ := both_true h2
      have h1 := of_beq h1; have h2 := of_ble h2; have h3 := of_ble h3
      subst h1
      injection h with h a b; subst h a b
      obtain ⟨v1, _, rfl, ⟨z, rfl, hz⟩, v2, _, rfl, hv2, hnil⟩ := hvs
      have hnil : _ = [] := hnil
      have hv2 : v2 = .int .i64 (.ofNat m) := hv2
      subst hnil hv2
      have hc : Calls Pg 4 [Value.int .i64 z, .int .i64 (.ofNat m)].toArray w fun e w' => ∃ v, e = .returned v ∧ (v = .int .i64 (.ofNat q) ∧ w = w') := by
        rw [Pg_eq]
        refine (mod_any z (.ofNat m) w (by simp; omega) (by simp; omega)).mono ?_
        rintro e w' ⟨rfl, rfl⟩
        exact ⟨_, rfl, by rw [show z % Int.ofNat m = Int.ofNat q from hz], rfl⟩
      obtain ⟨v, w', ⟨rfl, rfl⟩, hs⟩ := goes_of hc c cs
      exact ⟨ρ, w, r, .refl _ _ _ _, _, rfl, hs⟩
    · cases h
  · cases h
theorem memo3 : MemoOk M3 := by
  intro f args H e R' H' h0
  have h : (match Nat.beq f 234 with | true => insA H args | false => match Nat.beq f 6 with | true => knownA H args | false => match Nat.beq f 4 with | true => modA H args | false => .no) = CRes.ok e R' H' := h0
  clear h0
  split at h
  · rename_i hf
    have hf := of_beq hf
    subst hf
    exact ⟨has_body body234, fun ρ vs c cs w r hvs => insA_ok h r hvs c cs⟩
  · split at h
    · rename_i hf
      have hf := of_beq hf
      subst hf
      refine ⟨has_body body6, fun ρ vs c cs w r hvs => ?_⟩
      unfold knownA at h
      split at h
      · unfold knownGo at h
        split at h
        · rename_i hv
          injection h with h a b; subst h a b
          have hvs : vs = [] := hvs
          subst hvs
          obtain ⟨R, H2, hr⟩ := okT_some known_run
          exact closed_goes pgOk memoB rfl hr rfl (by decide) r (vars_in hv) c cs
        · cases h
      · cases h
    · split at h
      · rename_i hf
        have hf := of_beq hf
        subst hf
        exact ⟨has_body body4, fun ρ vs c cs w r hvs => modA_ok h r hvs c cs⟩
      · cases h
end
end Go.Proofs.YtmikbfdpenggjaaGreatDoor.Cv
