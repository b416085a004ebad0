/- Insertion into a row; the calls known beforehand, and what they give. Conditions: those stated in each theorem. -/
import Derived.Test.YtmikbfdpenggjaaGreatDoorCvI
namespace Go.Proofs.YtmikbfdpenggjaaGreatDoor.Cv
open Go
noncomputable section
/-! slices.Insert of one element at the front, into a row whose capacity is not known -/
/-- the small heap: the row at 8, what is inserted at 9 -/
def insH (ls lv : List V) : Hp := ((Hp.mk 8 .e).new (.c ls 0)).new (.c lv 0)
def insR (ρ : Rho) (x y : Nat) : Rho := fun z => if z < ng then ρ z else if z = 8 then ρ x else if z = 9 then ρ y else none
theorem insH_get (ls lv : List V) (z : Nat) : (insH ls lv).get z = if z = 9 then some (.c lv 0) else if z = 8 then some (.c ls 0) else none := by
  unfold insH
  rw [Hp.get_new, Hp.get_new, Hp.nx_new]
  rfl
theorem insH_nx (ls lv : List V) : (insH ls lv).nx = 10 := rfl
theorem insR_8 (ρ : Rho) (x y : Nat) : insR ρ x y 8 = ρ x := rfl
theorem insR_9 (ρ : Rho) (x y : Nat) : insR ρ x y 9 = ρ y := rfl
section
variable {ρ : Rho} {H : Hp} {w : World} {x y bx nx' : Nat} {l lv ls : List V} {e e' : Nat}
theorem ins_rh (r : RH ρ H.get H.nx w) (hx : H.get x = some (.c l e)) (hy : H.get y = some (.c lv e')) (hxy : x ≠ y) (hb : ρ x = some (bx, nx')) (hl : ∃ cs t, w.heap[bx]? = some (.cells cs t (0, 0)) ∧ cs.size = nx' ∧ RC (insR ρ x y) ls cs) (hv : atomL lv = true) :
    RH (insR ρ x y) (insH ls lv).get (insH ls lv).nx w where
  obj z o hz hd := by
    rw [insH_get] at hz
    split at hz
    · rename_i h9; subst h9; injection hz with hz; subst hz
      obtain ⟨b, n, h1, cs, t, h2, h3, h4⟩ := r.obj y _ hy rfl
      exact ⟨b, n, h1, cs, t, h2, h3, h4.atom hv⟩
    · split at hz
      · rename_i h8; subst h8; injection hz with hz; subst hz
        exact ⟨bx, nx', hb, hl⟩
      · cases hz
  inj z z' o o' b n m hz hz' ho ho' h1 h2 := by
    rw [insH_get] at hz hz'
    have key : ∀ b n m, ρ x = some (b, n) → ρ y = some (b, m) → False := fun b n m h1 h2 => hxy (r.inj x y _ _ b n m hx hy rfl rfl h1 h2)
    split at hz <;> split at hz'
    · rename_i a c; rw [a, c]
    · split at hz'
      · rename_i a _ c; subst a c; exact (key _ _ _ h2 h1).elim
      · cases hz'
    · split at hz
      · rename_i _ a c; subst a c; exact (key _ _ _ h1 h2).elim
      · cases hz
    · split at hz <;> split at hz'
      · rename_i a c; rw [a, c]
      · cases hz'
      · cases hz
      · cases hz
  kng z o hz hd ho := by
    rw [insH_get] at hz
    split at hz
    · injection hz with hz; subst hz; cases ho
    · split at hz
      · injection hz with hz; subst hz; cases ho
      · cases hz
  big z o b n hz ho h1 := by
    rw [insH_get] at hz
    split at hz
    · rename_i h9; subst h9; exact r.big y _ b n hy rfl h1
    · split at hz
      · rename_i h8; subst h8; exact r.big x _ b n hx rfl h1
      · cases hz
  fresh z hz := by
    rw [insH_nx] at hz
    unfold insR
    rw [if_neg (by unfold ng; omega), if_neg (by omega), if_neg (by omega)]
  lt z b n hz := by
    unfold insR at hz
    split at hz
    · exact r.lt z b n hz
    · split at hz
      · exact r.lt x b n hz
      · split at hz
        · exact r.lt y b n hz
        · cases hz
  glob g hg := by
    obtain ⟨n, hn⟩ := r.glob g hg
    exact ⟨n, by simp [insR, hg, hn]⟩
theorem ins_im {b : Nat} (h : Im (insR ρ x y) (insH ls lv).get b) : (∃ n, ρ x = some (b, n)) ∨ (∃ n, ρ y = some (b, n)) := by
  obtain ⟨z, o, n, hz, ho, h1⟩ := h
  rw [insH_get] at hz
  split at hz
  · rename_i h9; subst h9; exact .inr ⟨n, h1⟩
  · split at hz
    · rename_i h8; subst h8; exact .inl ⟨n, h1⟩
    · cases hz
/-- back from the small heap -/
theorem ins_back (r : RH ρ H.get H.nx w) (hx : H.get x = some (.c l e)) (hy : H.get y = some (.c lv e')) (hxy : x ≠ y) (hv : atomL lv = true) {ρ' : Rho} {H' : Hp} {w' : World} {z b n : Nat} {l' : List V} {e1 e9 : Nat}
    (r' : RH ρ' H'.get H'.nx w') (t : To (insR ρ x y) (insH ls lv).get (insH ls lv).nx w ρ' H'.get H'.nx w') (hz : H'.get z = some (.c l' e1)) (hz9 : z ≠ 9) (h9 : H'.get 9 = some (.c lv e9)) (hb : ρ' z = some (b, n)) (hl : atomL l' = true) :
    RH (updR ρ H.nx b n) ((H.set x .dead).new (.c l' e)).get ((H.set x .dead).new (.c l' e)).nx w' ∧ To ρ H.get H.nx w (updR ρ H.nx b n) ((H.set x .dead).new (.c l' e)).get ((H.set x .dead).new (.c l' e)).nx w' := by
  have hget : ∀ u, ((H.set x .dead).new (.c l' e)).get u = if u = H.nx then some (.c l' e) else if u = x then some .dead else H.get u := by
    intro u; rw [Hp.get_new, Hp.get_set, Hp.nx_set]
  have hnx : ((H.set x .dead).new (.c l' e)).nx = H.nx + 1 := by rw [Hp.nx_new, Hp.nx_set]
  obtain ⟨bx, m, hbx, _⟩ := r.obj x _ hx rfl
  obtain ⟨b9, m9, hb9, _⟩ := r.obj y _ hy rfl
  have hρ9 : ρ' 9 = some (b9, m9) := t.ext 9 _ (by rw [insR_9]; exact hb9)
  have hne9 : b ≠ b9 := by
    rintro rfl
    exact hz9 (r'.inj z 9 _ _ b n m9 hz h9 rfl rfl hb hρ9)
  have hfr : ρ H.nx = none := r.fresh _ (Nat.le_refl _)
  have hext : Ext ρ (updR ρ H.nx b n) := ext_updR hfr
  have hb' : b = bx ∨ w.heap.size ≤ b := by
    rcases t.im b ⟨z, _, n, hz, rfl, hb⟩ with h | h
    · rcases ins_im h with ⟨k, hk⟩ | ⟨k, hk⟩
      · rw [hbx] at hk; injection hk with hk; injection hk with hk; exact .inl hk.symm
      · rw [hb9] at hk; injection hk with hk; injection hk with hk; exact absurd hk.symm hne9
    · exact .inr h
  have hap : ∀ u o k c, u ≠ x → H.get u = some o → o.isDead = false → ρ u = some (c, k) → c ≠ b := by
    intro u o k c hux hu hd hc e
    subst e
    rcases hb' with e | e
    · subst e; exact hux (r.apart hx hu rfl hd hbx hc).symm
    · exact absurd (r.lt u _ k hc) (Nat.not_lt.2 e)
  have hkeep : ∀ c, c < w.heap.size → c ≠ bx → c ≠ b9 → w'.heap[c]? = w.heap[c]? := by
    intro c hc h1 h2
    refine t.keep c hc fun i => ?_
    rcases ins_im i with ⟨k, hk⟩ | ⟨k, hk⟩
    · rw [hbx] at hk; injection hk with hk; injection hk with hk; exact h1 hk.symm
    · rw [hb9] at hk; injection hk with hk; injection hk with hk; exact h2 hk.symm
  have hxn : x ≠ H.nx := by rintro rfl; rw [hfr] at hbx; cases hbx
  have hρ : ∀ u, u ≠ H.nx → updR ρ H.nx b n u = ρ u := fun u hu => by simp [updR, hu]
  have hρn : updR ρ H.nx b n H.nx = some (b, n) := by simp [updR]
  refine ⟨⟨?_, ?_, ?_, ?_, ?_, ?_, ?_⟩, ⟨hext, ?_, by rw [hnx]; omega, t.size, ?_, ?_, t.lk⟩⟩
  · intro u o hu hd
    rw [hget] at hu
    split at hu
    · rename_i e2; subst e2; injection hu with hu; subst hu
      obtain ⟨b2, n2, h1, cs, t2, h2, h3, h4⟩ := r'.obj z _ hz rfl
      rw [hb] at h1; injection h1 with h1; injection h1 with h1 h1'; subst h1 h1'
      exact ⟨b, n, hρn, cs, t2, h2, h3, h4.atom hl⟩
    · rename_i hun
      split at hu
      · injection hu with hu; subst hu; cases hd
      · rename_i hux
        by_cases huy : u = y
        · subst huy
          rw [hy] at hu; injection hu with hu; subst hu
          obtain ⟨b2, n2, h1, cs, t2, h2, h3, h4⟩ := r'.obj 9 _ h9 rfl
          rw [hρ9] at h1; injection h1 with h1; injection h1 with h1 h1'; subst h1 h1'
          exact ⟨b9, m9, by rw [hρ _ hun]; exact hb9, cs, t2, h2, h3, h4.atom hv⟩
        · obtain ⟨c, k, h1, h2⟩ := r.obj u o hu hd
          refine ⟨c, k, by rw [hρ _ hun]; exact h1, ?_⟩
          rw [hkeep c (r.lt u c k h1) (fun e2 => ?_) (fun e2 => ?_)]
          · exact h2.mono hext
          · subst e2; exact hux (r.apart hx hu rfl hd hbx h1).symm
          · subst e2; exact huy (r.apart hy hu rfl hd hb9 h1).symm
  · intro u u' o o' c k k' hu hu' ho ho' h1 h2
    rw [hget] at hu hu'
    split at hu <;> split at hu'
    · rename_i a c; rw [a, c]
    · rename_i a hun; subst a
      split at hu'
      · injection hu' with hu'; subst hu'; cases ho'
      · rename_i hux
        rw [hρn] at h1; injection h1 with h1; injection h1 with h1 _
        rw [hρ _ hun] at h2
        exact absurd h1.symm (hap u' o' k' c hux hu' (O.own_alive ho') h2)
    · rename_i hun a; subst a
      split at hu
      · injection hu with hu; subst hu; cases ho
      · rename_i hux
        rw [hρn] at h2; injection h2 with h2; injection h2 with h2 _
        rw [hρ _ hun] at h1
        exact absurd h2.symm (hap u o k c hux hu (O.own_alive ho) h1)
    · rename_i hun hun'
      rw [hρ _ hun] at h1; rw [hρ _ hun'] at h2
      split at hu <;> split at hu'
      · injection hu with hu; subst hu; cases ho
      · injection hu with hu; subst hu; cases ho
      · injection hu' with hu'; subst hu'; cases ho'
      · exact r.inj u u' o o' c k k' hu hu' ho ho' h1 h2
  · intro u o hu hd ho
    rw [hget] at hu
    split at hu
    · injection hu with hu; subst hu; cases ho
    · split at hu
      · injection hu with hu; subst hu; cases hd
      · exact r.kng u o hu hd ho
  · intro u o c k hu ho h1
    rw [hget] at hu
    split at hu
    · rename_i a; subst a
      rw [hρn] at h1; injection h1 with h1; injection h1 with h1 _; subst h1
      exact r'.big z _ b n hz rfl hb
    · rename_i hun
      rw [hρ _ hun] at h1
      split at hu
      · injection hu with hu; subst hu; cases ho
      · exact r.big u o c k hu ho h1
  · intro u hu
    rw [hnx] at hu
    rw [hρ _ (by omega)]
    exact r.fresh u (by omega)
  · intro u c k hu
    by_cases hun : u = H.nx
    · subst hun; rw [hρn] at hu; injection hu with hu; injection hu with hu _; subst hu
      exact r'.lt z b n hb
    · rw [hρ _ hun] at hu
      exact Nat.lt_of_lt_of_le (r.lt u c k hu) t.size
  · intro g hg
    obtain ⟨k, hk⟩ := r.glob g hg
    exact ⟨k, hext _ _ hk⟩
  · intro u hu
    exact hρ u (by omega)
  · rintro c ⟨u, o, k, hu, ho, h1⟩
    rw [hget] at hu
    split at hu
    · rename_i a; subst a
      rw [hρn] at h1; injection h1 with h1; injection h1 with h1 _; subst h1
      rcases hb' with e | e
      · subst e; exact .inl ⟨x, _, m, hx, rfl, hbx⟩
      · exact .inr e
    · rename_i hun
      rw [hρ _ hun] at h1
      split at hu
      · injection hu with hu; subst hu; cases ho
      · exact .inl ⟨u, o, k, hu, ho, h1⟩
  · intro c hc hn
    refine hkeep c hc (fun e => ?_) (fun e => ?_)
    · subst e; exact hn ⟨x, _, m, hx, rfl, hbx⟩
    · subst e; exact hn ⟨y, _, m9, hy, rfl, hb9⟩
end
end
end Go.Proofs.YtmikbfdpenggjaaGreatDoor.Cv
namespace Go.Proofs.YtmikbfdpenggjaaGreatDoor.Cv
open Go
noncomputable section
def un11 : List V := [.un, .un, .un, .un, .un, .un, .un, .un, .un, .un, .un]
def insArgs (x len cap y : Nat) : List V := [.sl x 0 len cap 11, .i .i64 0, .sl y 0 1 2 11]
/-- what a run in the small heap gives: the row's name, length, capacity, and both rows -/
def insOut : CRes → Option (Nat × Nat × Nat × Option O × Option O)
  | .ok (.ret (.sl z 0 m cap 11)) _ H => some (z, m, cap, H.get z, H.get 9)
  | _ => none
theorem insOut_some {r : CRes} {z m cap : Nat} {a b : Option O} (h : insOut r = some (z, m, cap, a, b)) : ∃ R H, r = .ok (.ret (.sl z 0 m cap 11)) R H ∧ H.get z = a ∧ H.get 9 = b := by
  unfold insOut at h
  split at h
  · rename_i z' m' cap' R H
    injection h with h; injection h with h1 h; injection h with h2 h; injection h with h3 h; injection h with h4 h5
    subst h1 h2 h3
    exact ⟨R, H, rfl, h4, h5⟩
  · cases h
/-- what the kernel's runs say -/
structure InsOk (M : Memo) (k f len : Nat) (l lv l' : List V) : Prop where
  le : l.length = len * 11
  a1 : atomL l = true
  a2 : atomL lv = true
  a3 : atomL l' = true
  no : ∀ cap ls, M f (insArgs 8 len cap 9) (insH ls lv) = .no
  grow : ∃ z e1 e9, z ≠ 9 ∧ insOut (callN M k f (insArgs 8 len (len + 1) 9) (insH l lv)) = some (z, len + 1, 0, some (.c l' e1), some (.c lv e9))
  fit : ∀ d, ∃ e1 e9, insOut (callN M k f (insArgs 8 len (d + (len + 1) + 1) 9) (insH (l ++ un11) lv)) = some (8, len + 1, d + (len + 1) + 1, some (.c l' e1), some (.c lv e9))
theorem un11_get {i : Nat} {x : V} (h : un11[i]? = some x) : x = .un ∧ i < 11 := by
  have hi : i < 11 := by
    have := (List.getElem?_eq_some_iff.1 h).1
    simpa [un11] using this
  refine ⟨?_, hi⟩
  have := List.mem_of_getElem? h
  simpa [un11] using this
theorem insert_goes (P : PgOk) {M : Memo} (hM : MemoOk M) {k f len : Nat} {l lv l' : List V} (I : InsOk M k f len l lv l') {ρ : Rho} {H : Hp} {w : World} (r : RH ρ H.get H.nx w) {x y e e' : Nat}
    (hx : H.get x = some (.c l e)) (hy : H.get y = some (.c lv e')) (hxy : x ≠ y) {vs : List Value} (ha : RVs ρ (insArgs x len 0 y) vs) (c : Frame) (cs : List Frame) :
    CallGoes ρ H w (lone (Frame.enter Pg f vs.toArray .normal) (c :: cs) w) c cs (.ret (.sl H.nx 0 (len + 1) 0 11)) ((H.set x .dead).new (.c l' e)) := by
  obtain ⟨v1, _, rfl, ⟨bx, n, c0, hb, rfl, hc1, hc2⟩, v2, _, rfl, hv2, v3, _, rfl, ⟨b9, n9, c9, hb9, rfl, hc9⟩, hnil⟩ := ha
  have hnil : _ = [] := hnil
  subst hnil
  have hv2 : v2 = .int .i64 0 := hv2
  subst hv2
  obtain ⟨b2, n2, hb', ks, t, hk1, hk2, hk3⟩ := r.obj x _ hx rfl
  rw [hb] at hb'; injection hb' with hb'; injection hb' with hb1 hb2; subst hb1 hb2
  have hk4 : RC (insR ρ x y) l ks := hk3.atom I.a1
  have go : ∀ ls cap z m cap' e1 e9, m = len + 1 → RC (insR ρ x y) ls ks → cap = c0 + 1 → z ≠ 9 → (cap' = 0 ∨ (z = 8 ∧ cap' = c0 + 1)) →
      insOut (callN M k f (insArgs 8 len cap 9) (insH ls lv)) = some (z, m, cap', some (.c l' e1), some (.c lv e9)) →
      CallGoes ρ H w (lone (Frame.enter Pg f [.slice (some ⟨bx, 0, none⟩) len c0, .int .i64 0, .slice (some ⟨b9, 0, none⟩) 1 c9].toArray .normal) (c :: cs) w) c cs (.ret (.sl H.nx 0 (len + 1) 0 11)) ((H.set x .dead).new (.c l' e)) := by
    intro ls cap z m cap' e1 e9 hm hls hcap hz9 hcap' hout
    subst hm
    obtain ⟨R, H', hrun, hgz, hg9⟩ := insOut_some hout
    have r0 := ins_rh r hx hy hxy hb ⟨ks, t, hk1, hk2, hls⟩ I.a2
    have hargs : RVs (insR ρ x y) (insArgs 8 len cap 9) [.slice (some ⟨bx, 0, none⟩) len c0, .int .i64 0, .slice (some ⟨b9, 0, none⟩) 1 c9] :=
      ⟨_, _, rfl, ⟨bx, n, c0, hb, rfl, by subst hcap; exact ⟨hc1, rfl⟩⟩, _, _, rfl, rfl, _, _, rfl, ⟨b9, n9, c9, hb9, rfl, hc9⟩, rfl⟩
    obtain ⟨v', w', ⟨ρ', h1, h2, h3⟩, hs⟩ := goes_of (Q := fun v' w' => ∃ ρ', RV ρ' (.sl z 0 (len + 1) cap' 11) v' ∧ RH ρ' H'.get H'.nx w' ∧ To (insR ρ x y) (insH ls lv).get (insH ls lv).nx w ρ' H'.get H'.nx w')
      ((calls_of P hM (I.no cap ls) hrun r0 hargs).mono (by rintro e w' ⟨v', ρ', h1, h2, h3, h4⟩; exact ⟨v', h1, ρ', h2, h3, h4⟩)) c cs
    obtain ⟨bz, nz, cz, hbz, rfl, hcz⟩ := h1
    obtain ⟨q1, q2⟩ := ins_back r hx hy hxy I.a2 h2 h3 hgz hz9 hg9 hbz I.a3
    refine ⟨updR ρ H.nx bz nz, w', q1, q2, _, ⟨bz, nz, cz, by simp [updR], rfl, ?_⟩, hs⟩
    rcases hcap' with e0 | ⟨e0, e2⟩
    · subst e0; exact hcz
    · subst e0 e2
      have h8 : ρ' 8 = some (bx, n) := h3.ext 8 _ (by rw [insR_8]; exact hb)
      rw [h8] at hbz; injection hbz with hbz; injection hbz with _ hbz; subst hbz
      obtain ⟨p1, p2⟩ := hcz
      exact ⟨p1, by rw [p2]; exact hc2⟩
  rcases Nat.lt_or_ge len c0 with hlt | hge
  · obtain ⟨d, hd⟩ : ∃ d, c0 = d + (len + 1) := ⟨c0 - (len + 1), by omega⟩
    obtain ⟨e1, e9, hf⟩ := I.fit d
    refine go (l ++ un11) _ 8 _ _ e1 e9 rfl ⟨?_, fun i x hi => ?_⟩ (by rw [hd]) (by decide) (.inr ⟨rfl, by rw [hd]⟩) hf
    · have : (l ++ un11).length = (len + 1) * 11 := by rw [List.length_append, I.le]; simp [un11]; omega
      omega
    · by_cases hil : i < l.length
      · rw [List.getElem?_append_left hil] at hi
        exact hk4.2 i x hi
      · rw [List.getElem?_append_right (by omega)] at hi
        obtain ⟨rfl, h11⟩ := un11_get hi
        have hle := I.le
        have : i < ks.size := by omega
        exact ⟨ks[i], by simp [this], trivial⟩
  · have e0 : c0 = len := by omega
    obtain ⟨z, e1, e9, hz, hg⟩ := I.grow
    exact go l _ z _ _ e1 e9 rfl hk4 (by rw [e0]) hz (.inl rfl) hg
end
end Go.Proofs.YtmikbfdpenggjaaGreatDoor.Cv
namespace Go.Proofs.YtmikbfdpenggjaaGreatDoor.Cv
open Go
noncomputable section
/-- the package variables -/
def wordsL : List V := [.s [114, 101, 99, 111, 114, 100], .s [102, 117, 110, 99], .s [118, 97, 114], .s [105, 110, 116], .s [105, 102], .s [101, 108, 115, 101], .s [119, 104, 105, 108, 101], .s [114, 101, 116, 117, 114, 110], .s [116, 104, 114, 111, 119], .s [116, 114, 121], .s [99, 97, 116, 99, 104], .s [112, 114, 105, 110, 116]]
def signsL : List V := [.s [60, 61], .s [61, 61], .s [33, 61], .s [40], .s [41], .s [123], .s [125], .s [91], .s [93], .s [44], .s [59], .s [58], .s [46], .s [43], .s [45], .s [42], .s [47], .s [37], .s [38], .s [124], .s [94], .s [60], .s [61], .s [33]]
def opsL : List V := [.s [43], .s [45], .s [42], .s [47], .s [37], .s [38], .s [124], .s [94], .s [60], .s [60, 61], .s [61, 61], .s [33, 61]]
def H0 : Hp := .mk 8 (.n (some (.k wordsL)) (.n (some (.k signsL)) .e .e) (.n (some (.k opsL)) .e .e))
/-- the rows of slices.Insert -/
def insL1 : List V := [.i .i64 3, .i .i64 1, .i .i64 0, .i .i64 0, .i .i64 0, .i .i64 0, .i .i64 0, .i .i64 0, .i .i64 0, .i .i64 0, .i .i64 0]
def insV1 : List V := [.i .i64 19, .i .i64 0, .i .i64 0, .i .i64 0, .i .i64 0, .i .i64 0, .i .i64 0, .i .i64 0, .i .i64 0, .i .i64 0, .i .i64 0]
def insL2 : List V := [.i .i64 19, .i .i64 0, .i .i64 0, .i .i64 0, .i .i64 0, .i .i64 0, .i .i64 0, .i .i64 0, .i .i64 0, .i .i64 0, .i .i64 0, .i .i64 3, .i .i64 1, .i .i64 0, .i .i64 0, .i .i64 0, .i .i64 0, .i .i64 0, .i .i64 0, .i .i64 0, .i .i64 0, .i .i64 0]
def insV2 : List V := [.i .i64 21, .i .i64 0, .i .i64 0, .i .i64 0, .i .i64 0, .i .i64 0, .i .i64 0, .i .i64 0, .i .i64 2, .i .i64 0, .i .i64 0]
def insL3 : List V := [.i .i64 21, .i .i64 0, .i .i64 0, .i .i64 0, .i .i64 0, .i .i64 0, .i .i64 0, .i .i64 0, .i .i64 2, .i .i64 0, .i .i64 0, .i .i64 19, .i .i64 0, .i .i64 0, .i .i64 0, .i .i64 0, .i .i64 0, .i .i64 0, .i .i64 0, .i .i64 0, .i .i64 0, .i .i64 0, .i .i64 3, .i .i64 1, .i .i64 0, .i .i64 0, .i .i64 0, .i .i64 0, .i .i64 0, .i .i64 0, .i .i64 0, .i .i64 0, .i .i64 0]
def M0 : Memo := fun _ _ _ => .no
def insGo1 (H : Hp) (x len e : Nat) (l' : List V) : Bool → CRes
  | true => .ok (.ret (.sl H.nx 0 (Nat.succ len) 0 11)) none ((H.set x .dead).new (.c l' e))
  | false => .no
def insTwo (H : Hp) (x len y : Nat) : Option O → Option O → CRes
  | some (.c lx e), some (.c ly _) => match Nat.beq len 1 with
    | true => insGo1 H x 1 e insL2 (both (notB (Nat.beq x y)) (both (sameL lx insL1) (sameL ly insV1)))
    | false => insGo1 H x 2 e insL3 (both (both (Nat.beq len 2) (notB (Nat.beq x y))) (both (sameL lx insL2) (sameL ly insV2)))
  | _, _ => .no
def insSl (H : Hp) (x len y : Nat) : Bool → CRes
  | true => insTwo H x len y (H.get x) (H.get y)
  | false => .no
def insA (H : Hp) : List V → CRes
  | [.sl x o len cap esz, .i .i64 n, .sl y o' cl cc es] => insSl H x len y
      (both (both (both (Nat.beq o 0) (Nat.beq cap 0)) (both (Nat.beq esz 11) (eqI n 0))) (both (both (Nat.beq o' 0) (Nat.beq cl 1)) (both (Nat.beq cc 2) (Nat.beq es 11))))
  | _ => .no
def M1 : Memo := fun f args H => match Nat.beq f 234 with
  | true => insA H args
  | false => .no
def kIs (l : List V) : Option O → Bool
  | some (.k l') => sameL l' l
  | _ => false
def varsB (H : Hp) : Bool := both (kIs wordsL (H.get 0)) (both (kIs signsL (H.get 1)) (kIs opsL (H.get 2)))
def knownGo (H : Hp) : Bool → CRes
  | true => .ok (.ret (.b true)) none H
  | false => .no
def knownA (H : Hp) : List V → CRes
  | [] => knownGo H (varsB H)
  | _ => .no
def modGo (H : Hp) (r : Nat) : Bool → CRes
  | true => .ok (.ret (.i .i64 (.ofNat r))) none H
  | false => .no
def modA (H : Hp) : List V → CRes
  | [.md m r, .i .i64 (.ofNat m')] => modGo H r (both (Nat.beq m m') (both (Nat.ble 1 m) (Nat.ble m 1000)))
  | _ => .no
def M3 : Memo := fun f args H => match Nat.beq f 234 with
  | true => insA H args
  | false => match Nat.beq f 6 with
    | true => knownA H args
    | false => match Nat.beq f 4 with
      | true => modA H args
      | false => .no
def okT : CRes → Bool
  | .ok (.ret (.b true)) _ _ => true
  | _ => false
theorem okT_some {r : CRes} (h : okT r = true) : ∃ R H, r = .ok (.ret (.b true)) R H := by
  unfold okT at h
  split at h
  · exact ⟨_, _, rfl⟩
  · cases h
end
end Go.Proofs.YtmikbfdpenggjaaGreatDoor.Cv
namespace Go.Proofs.YtmikbfdpenggjaaGreatDoor.Cv
open Go
noncomputable section
def parseZ : List Nat := [946, 1267, 1526, 1571, 1572]
def parseO : List (List V × Nat) := [([.s [97]], 9),
  ([.i .i64 1, .i .i64 0, .i .i64 0, .s [97], .s [], .nsl, .i .i64 1, .i .i64 0, .i .i64 0, .s [97], .s [], .nsl], 354),
  ([.i .i64 6, .i .i64 0, .i .i64 0, .s [], .s [], .sl 9 0 2 3 6], 354),
  ([.i .i64 6, .i .i64 1, .i .i64 0, .s [], .s [], .i .i64 0, .i .i64 0, .nsl, .s [], .i .i64 0, .sl 10 0 1 2 6, .nsl, .nsl, .i .i64 10, .i .i64 1, .i .i64 0, .s [], .s [], .i .i64 0, .i .i64 0, .nsl, .s [], .i .i64 0, .nsl, .nsl, .nsl], 216),
  ([.s [102], .i .i64 1, .sl 8 0 1 2 1, .sl 11 0 2 0 13], 113)]
def parseV : V := .tup [.agg [.nsl, .sl 12 0 1 0 4], .i .i64 0, .i .i64 0]
def unit0Z : List Nat := [73, 130, 133, 161, 164, 181, 197, 214, 524, 541, 542, 544, 879, 1125, 1429, 1609, 1611, 1646, 1666]
def unit0O : List (List V × Nat) := [([.s [97], .i .i64 1, .i .i64 (.negSucc 0), .i .i64 1, .b true, .i .i64 0, .i .i64 1], 223),
  ([.i .i64 1, .i .i64 0, .i .i64 0, .s [97], .s [], .nsl, .i .i64 1, .i .i64 0, .i .i64 0, .s [97], .s [], .nsl], 354),
  ([.i .i64 6, .i .i64 0, .i .i64 0, .s [], .s [], .sl 9 0 2 0 6], 354),
  ([.i .i64 0, .i .i64 6, .i .i64 1, .i .i64 0, .i .i64 10, .i .i64 1], 278),
  ([.i .i64 6, .i .i64 1, .i .i64 0, .s [], .s [], .i .i64 0, .i .i64 0, .nsl, .s [], .i .i64 0, .sl 10 0 1 0 6, .nsl, .nsl, .i .i64 10, .i .i64 1, .i .i64 1, .s [], .s [], .i .i64 0, .i .i64 0, .nsl, .s [], .i .i64 0, .nsl, .nsl, .nsl], 216),
  ([.s [97]], 9),
  ([.s [102], .i .i64 1, .sl 13 0 1 0 1, .sl 12 0 2 0 13], 113),
  ([.sl 8 0 1 0 7], 121),
  ([.i .i64 (.negSucc 0), .i .i64 (.negSucc 0), .i .i64 0], 221),
  ([.i .i64 21, .i .i64 0, .i .i64 0, .i .i64 0, .i .i64 0, .i .i64 0, .i .i64 0, .i .i64 0, .i .i64 2, .i .i64 0, .i .i64 0, .i .i64 19, .i .i64 0, .i .i64 0, .i .i64 0, .i .i64 0, .i .i64 0, .i .i64 0, .i .i64 0, .i .i64 0, .i .i64 0, .i .i64 0, .i .i64 3, .i .i64 1, .i .i64 0, .i .i64 0, .i .i64 0, .i .i64 0, .i .i64 0, .i .i64 0, .i .i64 0, .i .i64 0, .i .i64 0], 247),
  ([.i .i64 1, .sl 17 0 3 0 11, .i .i64 4, .i .i64 1, .i .i64 0, .nsl, .i .i64 (.negSucc 0), .nsl, .i .i64 (.negSucc 0), .nsl], 242),
  ([.i .i64 1, .sl 18 0 1 0 10, .sl 16 0 1 0 3, .nsl], 133),
  ([.i .i64 0, .i .i64 0, .i .i64 0, .b true], 162),
  ([.i .i64 2, .i .i64 1, .i .i64 0], 166),
  ([.i .i64 0, .i .i64 0, .i .i64 0, .i .i64 0, .i .i64 2, .sl 21 0 1 0 3], 172),
  ([.i .i64 0, .i .i64 0], 180),
  ([.i .i64 (.negSucc 0), .i .i64 (.negSucc 0), .i .i64 0], 221),
  ([.i .i64 0, .i .i64 5, .sl 20 0 1 0 4, .sl 22 0 1 0 6, .nsl, .sl 23 0 1 0 2, .nsl, .sl 24 0 1 0 3], 73),
  ([.i .i64 1, .i .i64 16843014, .i .i64 65541, .i .i64 3331, .i .i64 24], 3)]
def unit0V : V := .tup [.agg [.nsl, .sl 14 0 1 0 4, .sl 15 0 1 0 1, .sl 11 0 2 0 3], .agg [.sl 19 0 1 0 4], .agg [.sl 26 0 5 0 1, .i .i64 5, .sl 25 0 1 0 8], .i .i64 0, .i .i64 0]
def unit1Z : List Nat := [73, 130, 133, 161, 164, 181, 197, 214, 1237, 1467, 1471, 1477, 1795, 2055, 2276, 2501, 2562, 2564, 2599, 2615]
def unit1O : List (List V × Nat) := [([.s [97], .i .i64 1, .i .i64 (.negSucc 0), .i .i64 1, .b true, .i .i64 0, .i .i64 1], 223),
  ([.i .i64 1, .i .i64 0, .i .i64 0, .s [97], .s [], .nsl, .i .i64 1, .i .i64 0, .i .i64 0, .s [97], .s [], .nsl], 354),
  ([.i .i64 6, .i .i64 0, .i .i64 0, .s [], .s [], .sl 9 0 2 0 6], 354),
  ([.i .i64 0, .i .i64 6, .i .i64 1, .i .i64 0, .i .i64 10, .i .i64 1], 278),
  ([.i .i64 6, .i .i64 1, .i .i64 0, .s [], .s [], .i .i64 0, .i .i64 0, .nsl, .s [], .i .i64 0, .sl 10 0 1 0 6, .nsl, .nsl, .i .i64 10, .i .i64 1, .i .i64 1, .s [], .s [], .i .i64 0, .i .i64 0, .nsl, .s [], .i .i64 0, .nsl, .nsl, .nsl], 216),
  ([.s [97]], 9),
  ([.s [102], .i .i64 1, .sl 13 0 1 0 1, .sl 12 0 2 0 13], 113),
  ([.sl 8 0 1 0 7], 121),
  ([.i .i64 (.negSucc 0), .i .i64 (.negSucc 0), .i .i64 0], 221),
  ([.i .i64 21, .i .i64 0, .i .i64 0, .i .i64 0, .i .i64 0, .i .i64 0, .i .i64 0, .i .i64 0, .i .i64 2, .i .i64 0, .i .i64 0, .i .i64 19, .i .i64 0, .i .i64 0, .i .i64 0, .i .i64 0, .i .i64 0, .i .i64 0, .i .i64 0, .i .i64 0, .i .i64 0, .i .i64 0, .i .i64 3, .i .i64 1, .i .i64 0, .i .i64 0, .i .i64 0, .i .i64 0, .i .i64 0, .i .i64 0, .i .i64 0, .i .i64 0, .i .i64 0], 247),
  ([.i .i64 1, .sl 17 0 3 0 11, .i .i64 4, .i .i64 1, .i .i64 0, .nsl, .i .i64 (.negSucc 0), .nsl, .i .i64 (.negSucc 0), .nsl], 242),
  ([.i .i64 1, .sl 18 0 1 0 10, .sl 16 0 1 0 3, .nsl], 133),
  ([.i .i64 0, .i .i64 0, .i .i64 0, .b true], 162),
  ([.i .i64 2, .i .i64 1, .i .i64 0, .i .i64 4, .i .i64 1, .i .i64 0], 166),
  ([.i .i64 4, .i .i64 1, .i .i64 0], 166),
  ([.i .i64 0, .i .i64 0, .i .i64 0, .i .i64 0, .i .i64 1, .sl 21 0 2 0 3, .i .i64 0, .i .i64 0, .i .i64 0, .i .i64 1, .i .i64 4, .sl 22 0 1 0 3], 172),
  ([.i .i64 0, .i .i64 0], 180),
  ([.i .i64 (.negSucc 0), .i .i64 (.negSucc 0), .i .i64 0], 221),
  ([.i .i64 0, .i .i64 4, .sl 20 0 1 0 4, .sl 23 0 2 0 6, .nsl, .sl 24 0 1 0 2, .nsl, .sl 25 0 1 0 3], 73),
  ([.i .i64 16843014, .i .i64 65541, .i .i64 3331, .i .i64 24], 3)]
def unit1V : V := .tup [.agg [.nsl, .sl 14 0 1 0 4, .sl 15 0 1 0 1, .sl 11 0 2 0 3], .agg [.sl 19 0 1 0 4], .agg [.sl 27 0 4 0 1, .i .i64 4, .sl 26 0 1 0 8], .i .i64 0, .i .i64 0]
def unit2Z : List Nat := [73, 130, 133, 161, 164, 181, 197, 214, 2606, 2634, 2635, 2636, 2954, 3214, 3435, 3660, 3721, 3723, 3758, 3774]
def unit2O : List (List V × Nat) := [([.s [97], .i .i64 1, .i .i64 (.negSucc 0), .i .i64 1, .b true, .i .i64 0, .i .i64 1], 223),
  ([.i .i64 1, .i .i64 0, .i .i64 0, .s [97], .s [], .nsl, .i .i64 1, .i .i64 0, .i .i64 0, .s [97], .s [], .nsl], 354),
  ([.i .i64 6, .i .i64 0, .i .i64 0, .s [], .s [], .sl 9 0 2 0 6], 354),
  ([.i .i64 0, .i .i64 6, .i .i64 1, .i .i64 0, .i .i64 10, .i .i64 1], 278),
  ([.i .i64 6, .i .i64 1, .i .i64 0, .s [], .s [], .i .i64 0, .i .i64 0, .nsl, .s [], .i .i64 0, .sl 10 0 1 0 6, .nsl, .nsl, .i .i64 10, .i .i64 1, .i .i64 1, .s [], .s [], .i .i64 0, .i .i64 0, .nsl, .s [], .i .i64 0, .nsl, .nsl, .nsl], 216),
  ([.s [97]], 9),
  ([.s [102], .i .i64 1, .sl 13 0 1 0 1, .sl 12 0 2 0 13], 113),
  ([.sl 8 0 1 0 7], 121),
  ([.i .i64 (.negSucc 0), .i .i64 (.negSucc 0), .i .i64 0], 221),
  ([.i .i64 21, .i .i64 0, .i .i64 0, .i .i64 0, .i .i64 0, .i .i64 0, .i .i64 0, .i .i64 0, .i .i64 2, .i .i64 0, .i .i64 0, .i .i64 19, .i .i64 0, .i .i64 0, .i .i64 0, .i .i64 0, .i .i64 0, .i .i64 0, .i .i64 0, .i .i64 0, .i .i64 0, .i .i64 0, .i .i64 3, .i .i64 1, .i .i64 0, .i .i64 0, .i .i64 0, .i .i64 0, .i .i64 0, .i .i64 0, .i .i64 0, .i .i64 0, .i .i64 0], 247),
  ([.i .i64 1, .sl 17 0 3 0 11, .i .i64 4, .i .i64 1, .i .i64 0, .nsl, .i .i64 (.negSucc 0), .nsl, .i .i64 (.negSucc 0), .nsl], 242),
  ([.i .i64 1, .sl 18 0 1 0 10, .sl 16 0 1 0 3, .nsl], 133),
  ([.i .i64 0, .i .i64 0, .i .i64 0, .b true], 162),
  ([.i .i64 2, .i .i64 1, .i .i64 0, .i .i64 4, .i .i64 1, .i .i64 0], 166),
  ([.i .i64 4, .i .i64 1, .i .i64 0], 166),
  ([.i .i64 0, .i .i64 0, .i .i64 0, .i .i64 0, .i .i64 1, .sl 21 0 2 0 3, .i .i64 0, .i .i64 0, .i .i64 0, .i .i64 1, .i .i64 4, .sl 22 0 1 0 3], 172),
  ([.i .i64 0, .i .i64 0], 180),
  ([.i .i64 (.negSucc 0), .i .i64 (.negSucc 0), .i .i64 0], 221),
  ([.i .i64 0, .i .i64 4, .sl 20 0 1 0 4, .sl 23 0 2 0 6, .nsl, .sl 24 0 1 0 2, .nsl, .sl 25 0 1 0 3], 73),
  ([.i .i64 16843014, .i .i64 65541, .i .i64 3331, .i .i64 24], 3)]
def unit2V : V := .tup [.agg [.nsl, .sl 14 0 1 0 4, .sl 15 0 1 0 1, .sl 11 0 2 0 3], .agg [.sl 19 0 1 0 4], .agg [.sl 27 0 4 0 1, .i .i64 4, .sl 26 0 1 0 8], .i .i64 0, .i .i64 0]
def build0Z : List Nat := [43, 46, 110, 244, 295, 715, 797]
def build0O : List (List V × Nat) := [([.i .i64 1, .i .i64 16843014, .i .i64 65541, .i .i64 3331, .i .i64 24], 3),
  ([.i .i64 0], 3),
  ([.i .u8 1, .i .u8 0, .i .u8 5, .i .u8 19, .i .u8 0], 5),
  ([.i .u8 1, .i .u8 0, .i .u8 5, .i .u8 1, .i .u8 0, .i .u8 2, .i .u8 0, .i .u8 0, .i .u8 0, .i .u8 1, .i .u8 2, .i .u8 1], 5),
  ([.i .u8 1, .i .u8 0, .i .u8 5, .i .u8 1, .i .u8 0, .i .u8 0, .i .u8 0], 5),
  ([.i .u8 1, .i .u8 1, .i .u8 2, .i .u8 2, .i .u8 1, .i .u8 3, .i .u8 1, .i .u8 4, .i .u8 1, .i .u8 4, .i .u8 1, .i .u8 3, .i .u8 4, .i .u8 1, .i .u8 5, .i .u8 1, .i .u8 6, .i .u8 1, .i .u8 5, .i .u8 0, .i .u8 1, .i .u8 1, .i .u8 3, .i .u8 7, .i .u8 0, .i .u8 3, .i .u8 13, .i .u8 1, .i .u8 7, .i .u8 1, .i .u8 4, .i .u8 1], 5),
  ([.i .u8 1, .i .u8 0, .i .u8 5, .i .u8 2, .i .u8 1, .i .u8 102, .i .u8 1, .i .u8 0, .i .u8 5, .i .u8 3, .i .u8 1, .i .u8 97, .i .u8 4, .i .u8 0, .i .u8 6, .i .u8 1, .i .u8 4, .i .u8 1, .i .u8 10, .i .u8 1, .i .u8 0, .i .u8 0], 5)]
def build0V : V := .tup [.agg [.sl 8 0 5 0 1, .i .i64 5, .sl 9 0 1 0 1, .sl 10 0 5 0 1, .sl 11 0 12 0 1, .sl 12 0 7 0 1, .sl 13 0 32 0 1, .sl 14 0 22 0 1], .i .i64 0, .i .i64 0]
def build1Z : List Nat := [44, 47, 111, 374, 425, 845, 927]
def build1O : List (List V × Nat) := [([.i .i64 16843014, .i .i64 65541, .i .i64 3331, .i .i64 24], 3),
  ([.i .i64 0], 3),
  ([.i .u8 1, .i .u8 0, .i .u8 4, .i .u8 19, .i .u8 0], 5),
  ([.i .u8 1, .i .u8 0, .i .u8 4, .i .u8 2, .i .u8 0, .i .u8 1, .i .u8 0, .i .u8 0, .i .u8 0, .i .u8 2, .i .u8 2, .i .u8 1, .i .u8 4, .i .u8 1, .i .u8 1, .i .u8 3, .i .u8 0, .i .u8 0, .i .u8 0, .i .u8 1, .i .u8 4, .i .u8 1], 5),
  ([.i .u8 1, .i .u8 0, .i .u8 4, .i .u8 1, .i .u8 0, .i .u8 0, .i .u8 0], 5),
  ([.i .u8 1, .i .u8 1, .i .u8 2, .i .u8 2, .i .u8 1, .i .u8 3, .i .u8 1, .i .u8 4, .i .u8 1, .i .u8 4, .i .u8 1, .i .u8 3, .i .u8 4, .i .u8 1, .i .u8 5, .i .u8 1, .i .u8 6, .i .u8 1, .i .u8 5, .i .u8 0, .i .u8 1, .i .u8 1, .i .u8 3, .i .u8 7, .i .u8 0, .i .u8 3, .i .u8 13, .i .u8 1, .i .u8 7, .i .u8 1, .i .u8 4, .i .u8 1], 5),
  ([.i .u8 1, .i .u8 1, .i .u8 4, .i .u8 2, .i .u8 1, .i .u8 102, .i .u8 1, .i .u8 0, .i .u8 4, .i .u8 3, .i .u8 1, .i .u8 97, .i .u8 4, .i .u8 0, .i .u8 6, .i .u8 1, .i .u8 4, .i .u8 1, .i .u8 10, .i .u8 1, .i .u8 0, .i .u8 0], 5)]
def build1V : V := .tup [.agg [.sl 8 0 4 0 1, .i .i64 4, .sl 9 0 1 0 1, .sl 10 0 5 0 1, .sl 11 0 22 0 1, .sl 12 0 7 0 1, .sl 13 0 32 0 1, .sl 14 0 22 0 1], .i .i64 0, .i .i64 0]
def build2Z : List Nat := [44, 47, 111, 374, 425, 845, 927]
def build2O : List (List V × Nat) := [([.i .i64 16843014, .i .i64 65541, .i .i64 3331, .i .i64 24], 3),
  ([.i .i64 0], 3),
  ([.i .u8 1, .i .u8 0, .i .u8 4, .i .u8 19, .i .u8 0], 5),
  ([.i .u8 1, .i .u8 0, .i .u8 4, .i .u8 2, .i .u8 0, .i .u8 1, .i .u8 0, .i .u8 0, .i .u8 0, .i .u8 2, .i .u8 2, .i .u8 1, .i .u8 4, .i .u8 1, .i .u8 1, .i .u8 3, .i .u8 0, .i .u8 0, .i .u8 0, .i .u8 1, .i .u8 4, .i .u8 1], 5),
  ([.i .u8 1, .i .u8 0, .i .u8 4, .i .u8 1, .i .u8 0, .i .u8 0, .i .u8 0], 5),
  ([.i .u8 1, .i .u8 1, .i .u8 2, .i .u8 2, .i .u8 1, .i .u8 3, .i .u8 1, .i .u8 4, .i .u8 1, .i .u8 4, .i .u8 1, .i .u8 3, .i .u8 4, .i .u8 1, .i .u8 5, .i .u8 1, .i .u8 6, .i .u8 1, .i .u8 5, .i .u8 0, .i .u8 1, .i .u8 1, .i .u8 3, .i .u8 7, .i .u8 0, .i .u8 3, .i .u8 13, .i .u8 1, .i .u8 7, .i .u8 1, .i .u8 4, .i .u8 1], 5),
  ([.i .u8 1, .i .u8 2, .i .u8 4, .i .u8 2, .i .u8 1, .i .u8 102, .i .u8 1, .i .u8 0, .i .u8 4, .i .u8 3, .i .u8 1, .i .u8 97, .i .u8 4, .i .u8 0, .i .u8 6, .i .u8 1, .i .u8 4, .i .u8 1, .i .u8 10, .i .u8 1, .i .u8 0, .i .u8 0], 5)]
def build2V : V := .tup [.agg [.sl 8 0 4 0 1, .i .i64 4, .sl 9 0 1 0 1, .sl 10 0 5 0 1, .sl 11 0 22 0 1, .sl 12 0 7 0 1, .sl 13 0 32 0 1, .sl 14 0 22 0 1], .i .i64 0, .i .i64 0]
def textV : V := .s [102, 117, 110, 99, 32, 102, 40, 97, 41, 32, 123, 32, 114, 101, 116, 117, 114, 110, 32, 97, 32, 43, 32, 97, 59, 32, 125]
def tplGo (H : Hp) (os : List (List V × Nat)) (v : V) : Bool → CRes
  | true => .ok (.ret (mapN (fun z => z - 8 + H.nx) v)) none (addT H.nx os H)
  | false => .no
def tplA (fargs : List V) (os : List (List V × Nat)) (v : V) (H : Hp) (args : List V) (els : CRes) : CRes := match sameL args fargs with
  | true => tplGo H os v (varsB H)
  | false => els
def parseA (H : Hp) (args : List V) : CRes := tplA [textV] parseO parseV H args .no
def unitA (H : Hp) (args : List V) : CRes := tplA [textV, .i .i64 0] unit0O unit0V H args (tplA [textV, .i .i64 1] unit1O unit1V H args (tplA [textV, .i .i64 2] unit2O unit2V H args .no))
def buildA (H : Hp) (args : List V) : CRes := tplA [textV, .i .i64 0] build0O build0V H args (tplA [textV, .i .i64 1] build1O build1V H args (tplA [textV, .i .i64 2] build2O build2V H args .no))
/-- slices.Insert and the parser's layout -/
def Mp : Memo := fun f args H => match Nat.beq f 234 with
  | true => insA H args
  | false => match Nat.beq f 11 with
    | true => parseA H args
    | false => .no
/-- .. the units' -/
def Mu : Memo := fun f args H => match Nat.beq f 7 with
  | true => unitA H args
  | false => .no
/-- .. the images' -/
def Mb : Memo := fun f args H => match Nat.beq f 5 with
  | true => buildA H args
  | false => .no
end
end Go.Proofs.YtmikbfdpenggjaaGreatDoor.Cv
