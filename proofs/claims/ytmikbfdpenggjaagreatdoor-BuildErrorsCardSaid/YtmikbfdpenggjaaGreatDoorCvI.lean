/- Calls known beforehand. Conditions: those stated in each theorem. -/
import Derived.Test.YtmikbfdpenggjaaGreatDoorCvH
namespace Go.Proofs.YtmikbfdpenggjaaGreatDoor.Cv
open Go
noncomputable section
/-- values that no name is in -/
def atomV : V → Bool
  | .b _ => true
  | .i _ _ => true
  | .s _ => true
  | .un => true
  | _ => false
def atomL : List V → Bool
  | [] => true
  | x :: r => both (atomV x) (atomL r)
theorem RV.atom {ρ ρ' : Rho} {x : V} {v : Value} (h : atomV x = true) (r : RV ρ x v) : RV ρ' x v := by
  cases x <;> first | (cases h; done) | exact r
theorem atomL_get : ∀ {l : List V} {i : Nat} {x : V}, atomL l = true → l[i]? = some x → atomV x = true
  | [], _, _, _, h => by simp at h
  | y :: r, 0, x, h, e => by simp at e; subst e; exact (both_true h).1
  | y :: r, i + 1, x, h, e => atomL_get (both_true h).2 (by simpa using e)
theorem RC.atom {ρ ρ' : Rho} {l : List V} {cs : Array Value} (h : atomL l = true) (r : RC ρ l cs) : RC ρ' l cs :=
  ⟨r.1, fun i x e => let ⟨v, a, b⟩ := r.2 i x e; ⟨v, a, b.atom (atomL_get h e)⟩⟩
/-- the package variables alone -/
def cutG (ρ : Rho) : Rho := fun x => if x < ng then ρ x else none
/-- a heap of package variables that hold atoms -/
def VarsIn (H0 : Hp) (h : Gt) : Prop := ∀ x o, H0.get x = some o → x < ng ∧ ∃ l, o = .k l ∧ atomL l = true ∧ h x = some o
theorem RH.cutG {ρ : Rho} {h : Gt} {nx : Nat} {w : World} (r : RH ρ h nx w) {H0 : Hp} (hv : VarsIn H0 h) (hn : ng ≤ H0.nx) : RH (cutG ρ) H0.get H0.nx w where
  obj x o hx hd := by
    obtain ⟨h1, l, rfl, h2, h3⟩ := hv x o hx
    obtain ⟨b, n, h4, cs, e, fz, h5, h6⟩ := r.obj x _ h3 hd
    exact ⟨b, n, by simp [Cv.cutG, h1, h4], cs, e, fz, h5, h6.atom h2⟩
  inj x y o o' b n m hx _ ho _ _ _ := by obtain ⟨_, l, rfl, _⟩ := hv x o hx; cases ho
  kng x o hx _ _ := (hv x o hx).1
  big x o b n hx ho _ := by obtain ⟨_, l, rfl, _⟩ := hv x o hx; cases ho
  fresh x hx := by simp [Cv.cutG, Nat.not_lt.2 (Nat.le_trans hn hx)]
  lt x b n hx := by
    unfold Cv.cutG at hx
    split at hx
    · exact r.lt x b n hx
    · cases hx
  glob g hg := by
    obtain ⟨n, hn⟩ := r.glob g hg
    exact ⟨n, by simp [Cv.cutG, hg, hn]⟩
/-- a call that reads the package variables alone, and gives an atom -/
theorem closed_goes (P : PgOk) {M : Memo} (hM : MemoOk M) {n f : Nat} {v : V} {R : Option V} {H0 H0' : Hp} (hm : M f [] H0 = .no) (h : callN M n f [] H0 = .ok (.ret v) R H0') (hv : atomV v = true) (hn : ng ≤ H0.nx)
    {ρ : Rho} {H : Hp} {w : World} (r : RH ρ H.get H.nx w) (hk : VarsIn H0 H.get) (c : Frame) (cs : List Frame) :
    CallGoes ρ H w (lone (Frame.enter Pg f #[] .normal) (c :: cs) w) c cs (.ret v) H := by
  obtain ⟨v', w', ⟨ρ', h1, h2, h3⟩, hs⟩ := goes_of (Q := fun v' w' => ∃ ρ', RV ρ' v v' ∧ RH ρ' H0'.get H0'.nx w' ∧ To (cutG ρ) H0.get H0.nx w ρ' H0'.get H0'.nx w')
    ((calls_of P hM hm h (r.cutG hk hn) (vs := []) rfl).mono (by rintro e w' ⟨v', ρ', h1, h2, h3, h4⟩; exact ⟨v', h1, ρ', h2, h3, h4⟩)) c cs
  have hno : ∀ b, ¬ Im (cutG ρ) H0.get b := by
    rintro b ⟨x, o, n, hx, ho, _⟩
    obtain ⟨_, l, rfl, _⟩ := hk x o hx
    cases ho
  have hkeep : ∀ b, b < w.heap.size → w'.heap[b]? = w.heap[b]? := fun b hb => h3.keep b hb (hno b)
  refine ⟨ρ, w', ⟨fun x o hx hd => ?_, r.inj, r.kng, r.big, r.fresh, fun x b n hx => Nat.lt_of_lt_of_le (r.lt x b n hx) h3.size, r.glob⟩, ⟨.refl _, fun _ _ => rfl, Nat.le_refl _, h3.size, fun b i => .inl i, fun b hb _ => hkeep b hb, h3.lk⟩, v', h1.atom hv, hs⟩
  obtain ⟨b, n, hb, ho⟩ := r.obj x o hx hd
  exact ⟨b, n, hb, by rw [hkeep b (r.lt x b n hb)]; exact ho⟩
end
end Go.Proofs.YtmikbfdpenggjaaGreatDoor.Cv
namespace Go.Proofs.YtmikbfdpenggjaaGreatDoor.Cv
open Go
noncomputable section
/-! calls at closed arguments whose result is laid out beforehand: a list of rows, and a value that names them -/
mutual
def mapN (f : Nat → Nat) : V → V
  | .p x o => .p (f x) o
  | .sl x o len cap esz => .sl (f x) o len cap esz
  | .m x => .m (f x)
  | .yd x => .yd (f x)
  | .fn g c => .fn g (mapNs f c)
  | .ifc t v => .ifc t (mapN f v)
  | .agg l => .agg (mapNs f l)
  | .tup l => .tup (mapNs f l)
  | .b x => .b x
  | .i k n => .i k n
  | .s l => .s l
  | .np => .np
  | .nsl => .nsl
  | .se => .se
  | .nm => .nm
  | .nf => .nf
  | .nifc => .nifc
  | .un => .un
  | .md m r => .md m r
def mapNs (f : Nat → Nat) : List V → List V
  | [] => []
  | x :: r => mapN f x :: mapNs f r
end
theorem mapNs_get (f : Nat → Nat) : ∀ (l : List V) (i : Nat), (mapNs f l)[i]? = (l[i]?).map (mapN f)
  | [], i => by simp [mapNs]
  | x :: r, 0 => by simp [mapNs]
  | x :: r, i + 1 => by simp [mapNs, mapNs_get f r i]
theorem mapNs_len (f : Nat → Nat) : ∀ (l : List V), (mapNs f l).length = l.length
  | [] => rfl
  | x :: r => by simp [mapNs, mapNs_len f r]
mutual
theorem RV.map {ρ ρ' : Rho} {f g : Nat → Nat} (h : ∀ z p, ρ (f z) = some p → ρ' (g z) = some p) : ∀ (x : V) (v : Value), RV ρ (mapN f x) v → RV ρ' (mapN g x) v
  | .b _, _, e => e
  | .i _ _, _, e => e
  | .s _, _, e => e
  | .np, _, e => e
  | .p _ _, _, ⟨b, n, e, r⟩ => ⟨b, n, h _ _ e, r⟩
  | .nsl, _, e => e
  | .se, _, e => e
  | .sl .., _, ⟨b, n, c, e, r⟩ => ⟨b, n, c, h _ _ e, r⟩
  | .nm, _, e => e
  | .m _, _, ⟨b, n, e, r⟩ => ⟨b, n, h _ _ e, r⟩
  | .fn _ c, _, ⟨cs, e, r⟩ => ⟨cs, e, RVs.map h c _ r⟩
  | .yd _, _, ⟨b, n, e, r⟩ => ⟨b, n, h _ _ e, r⟩
  | .nf, _, e => e
  | .ifc _ x, _, ⟨v', e, r⟩ => ⟨v', e, RV.map h x v' r⟩
  | .nifc, _, e => e
  | .agg l, _, ⟨cs, e, r⟩ => ⟨cs, e, RVs.map h l _ r⟩
  | .tup l, _, ⟨cs, e, r⟩ => ⟨cs, e, RVs.map h l _ r⟩
  | .un, _, _ => trivial
  | .md _ _, _, e => e
theorem RVs.map {ρ ρ' : Rho} {f g : Nat → Nat} (h : ∀ z p, ρ (f z) = some p → ρ' (g z) = some p) : ∀ (x : List V) (v : List Value), RVs ρ (mapNs f x) v → RVs ρ' (mapNs g x) v
  | [], _, e => e
  | x :: r, _, ⟨v, vs', e, a, c⟩ => ⟨v, vs', e, RV.map h x v a, RVs.map h r vs' c⟩
end
theorem RC.map {ρ ρ' : Rho} {f g : Nat → Nat} (h : ∀ z p, ρ (f z) = some p → ρ' (g z) = some p) {l : List V} {cs : Array Value} (r : RC ρ (mapNs f l) cs) : RC ρ' (mapNs g l) cs := by
  refine ⟨by rw [mapNs_len]; have := r.1; rwa [mapNs_len] at this, fun i x hx => ?_⟩
  rw [mapNs_get] at hx
  cases e : l[i]? with
  | none => rw [e] at hx; cases hx
  | some y =>
    rw [e] at hx
    injection hx with hx; subst hx
    obtain ⟨v, h1, h2⟩ := r.2 i (mapN f y) (by rw [mapNs_get, e]; rfl)
    exact ⟨v, h1, RV.map h y v h2⟩
/-- the rows of a layout, at their places in a heap: the row i has the name b + i -/
def addT (b : Nat) : List (List V × Nat) → Hp → Hp
  | [], H => H
  | (l, e) :: r, H => addT b r (H.new (.c (mapNs (fun z => z - 8 + b) l) e))
theorem addT_nx (b : Nat) : ∀ (os : List (List V × Nat)) (H : Hp), (addT b os H).nx = H.nx + os.length
  | [], H => rfl
  | (l, e) :: r, H => by simp only [addT, addT_nx b r, Hp.nx_new, List.length_cons]; omega
theorem addT_get (b : Nat) : ∀ (os : List (List V × Nat)) (H : Hp) (u : Nat), (addT b os H).get u = if H.nx ≤ u ∧ u < H.nx + os.length then (os[u - H.nx]?).map fun p => O.c (mapNs (fun z => z - 8 + b) p.1) p.2 else H.get u
  | [], H, u => by rw [if_neg (by simp)]; rfl
  | (l, e) :: r, H, u => by
    simp only [addT, addT_get b r, Hp.nx_new, List.length_cons, Hp.get_new]
    by_cases h1 : u = H.nx
    · subst h1
      rw [if_neg (by omega), if_pos rfl, if_pos (by omega)]
      simp
    · by_cases h2 : H.nx + 1 ≤ u ∧ u < H.nx + 1 + r.length
      · rw [if_pos h2, if_pos (by omega)]
        have : u - H.nx = (u - (H.nx + 1)) + 1 := by omega
        rw [this]; simp
      · rw [if_neg h2, if_neg h1, if_neg (by omega)]
/-- the names of a run, in the layout's order -/
def nameIn (zs : List Nat) (z : Nat) : Nat := match Nat.blt z 8 with
  | true => 7
  | false => (zs[z - 8]?).getD 7
/-- a run agrees with a layout -/
structure TplOk (zs : List Nat) (os : List (List V × Nat)) (v : V) (v' : V) (H' : Hp) : Prop where
  val : ∀ ρ u, RV ρ v' u → RV ρ (mapN (nameIn zs) v) u
  len : zs.length = os.length
  row : ∀ (i z : Nat) (p : List V × Nat), zs[i]? = some z → os[i]? = some p → ∃ l e, H'.get z = some (.c l e) ∧ ∀ ρ cs, RC ρ l cs → RC ρ (mapNs (nameIn zs) p.1) cs
  dist : ∀ (i j z : Nat), zs[i]? = some z → zs[j]? = some z → i = j
theorem tpl_goes (P : PgOk) {M : Memo} (hM : MemoOk M) {n f : Nat} {args : List V} {v v' : V} {R : Option V} {H0 H' : Hp} {zs : List Nat} {os : List (List V × Nat)} (hm : M f args H0 = .no) (h : callN M n f args H0 = .ok (.ret v') R H') (ha : atomL args = true) (hn : H0.nx = 8) (ht : TplOk zs os v v' H')
    {ρ : Rho} {H : Hp} {w : World} (r : RH ρ H.get H.nx w) (hk : VarsIn H0 H.get) {vs : List Value} (hvs : RVs ρ args vs) (c : Frame) (cs : List Frame) :
    CallGoes ρ H w (lone (Frame.enter Pg f vs.toArray .normal) (c :: cs) w) c cs (.ret (mapN (fun z => z - 8 + H.nx) v)) (addT H.nx os H) := by
  have hvs' : RVs (cutG ρ) args vs := RVs.of_get hvs.len fun i x u hx hu => by
    obtain ⟨u', h1, h2⟩ := hvs.get hx
    rw [hu] at h1; injection h1 with h1; subst h1
    exact h2.atom (atomL_get ha hx)
  obtain ⟨u, w', ⟨ρ', h1, h2, h3⟩, hs⟩ := goes_of (Q := fun u w' => ∃ ρ', RV ρ' v' u ∧ RH ρ' H'.get H'.nx w' ∧ To (cutG ρ) H0.get H0.nx w ρ' H'.get H'.nx w')
    ((calls_of P hM hm h (r.cutG hk (by rw [hn]; decide)) hvs').mono (by rintro e w' ⟨u, ρ', h1, h2, h3, h4⟩; exact ⟨u, h1, ρ', h2, h3, h4⟩)) c cs
  have hno : ∀ b, ¬ Im (cutG ρ) H0.get b := by
    rintro b ⟨x, o, n, hx, ho, _⟩
    obtain ⟨_, l, rfl, _⟩ := hk x o hx
    cases ho
  have hkeep : ∀ b, b < w.heap.size → w'.heap[b]? = w.heap[b]? := fun b hb => h3.keep b hb (hno b)
  have h7 : ρ' 7 = none := by
    rw [h3.old 7 (by rw [hn]; decide)]
    rfl
  have hz : ∀ (i z : Nat) (p : List V × Nat), zs[i]? = some z → os[i]? = some p → ∃ b n cs t, ρ' z = some (b, n) ∧ w'.heap[b]? = some (.cells cs t (0, 0)) ∧ cs.size = n ∧ RC ρ' (mapNs (nameIn zs) p.1) cs ∧ w.heap.size ≤ b ∧ ng ≤ b := by
    intro i z p hi hp
    obtain ⟨l, e, he, hle⟩ := ht.row i z p hi hp
    obtain ⟨b, n, k1, ks, t, k2, k3, k4⟩ := h2.obj z _ he rfl
    refine ⟨b, n, ks, t, k1, k2, k3, hle _ _ k4, ?_, h2.big z _ b n he rfl k1⟩
    rcases h3.im b ⟨z, _, n, he, rfl, k1⟩ with k | k
    · exact absurd k (hno b)
    · exact k
  let ρ2 : Rho := fun u => if u < H.nx then ρ u else if u < H.nx + zs.length then (zs[u - H.nx]?).bind ρ' else none
  have hlt : ∀ u p, ρ u = some p → u < H.nx := fun u p hu => by
    rcases Nat.lt_or_ge u H.nx with h | h
    · exact h
    · rw [r.fresh u h] at hu; cases hu
  have hext : Ext ρ ρ2 := fun u p hu => by
    show (if u < H.nx then ρ u else _) = _
    rw [if_pos (hlt u p hu)]; exact hu
  have hold : ∀ u, u < H.nx → ρ2 u = ρ u := fun u hu => by
    show (if u < H.nx then ρ u else _) = _
    rw [if_pos hu]
  have hnew : ∀ (i z : Nat), zs[i]? = some z → ρ2 (H.nx + i) = ρ' z := fun i z hi => by
    have hl := (List.getElem?_eq_some_iff.1 hi).1
    show (if H.nx + i < H.nx then ρ (H.nx + i) else if H.nx + i < H.nx + zs.length then (zs[H.nx + i - H.nx]?).bind ρ' else none) = _
    rw [if_neg (by omega), if_pos (by omega), Nat.add_sub_cancel_left, hi]
    rfl
  have hmap : ∀ z p, ρ' (nameIn zs z) = some p → ρ2 (z - 8 + H.nx) = some p := by
    intro z p hp
    unfold nameIn at hp
    split at hp
    · rw [h7] at hp; cases hp
    · cases e : zs[z - 8]? with
      | none => rw [e] at hp; rw [show (none : Option Nat).getD 7 = 7 from rfl, h7] at hp; cases hp
      | some y =>
        rw [e] at hp
        rw [Nat.add_comm, hnew _ y e]
        exact hp
  -- a name of the new heap: an old one, or a row
  have hcase : ∀ u o, (addT H.nx os H).get u = some o → (∃ i z p, u = H.nx + i ∧ zs[i]? = some z ∧ os[i]? = some p ∧ o = .c (mapNs (fun z => z - 8 + H.nx) p.1) p.2) ∨ ((u < H.nx ∨ H.nx + zs.length ≤ u) ∧ H.get u = some o) := by
    intro u o hu
    rw [addT_get] at hu
    split at hu
    · rename_i hc
      obtain ⟨p, hp, rfl⟩ := Option.map_eq_some_iff.1 hu
      have hl := ht.len
      have hi : u - H.nx < zs.length := by omega
      exact .inl ⟨u - H.nx, zs[u - H.nx], p, by omega, List.getElem?_eq_getElem hi, hp, rfl⟩
    · rename_i hc
      refine .inr ⟨?_, hu⟩
      rw [ht.len]
      omega
  have hρo : ∀ u o b n, (u < H.nx ∨ H.nx + zs.length ≤ u) → H.get u = some o → ρ2 u = some (b, n) → ρ u = some (b, n) := by
    intro u o b n hu _ hb
    rcases hu with hu | hu
    · rwa [hold u hu] at hb
    · have : ρ2 u = none := by
        show (if u < H.nx then ρ u else if u < H.nx + zs.length then (zs[u - H.nx]?).bind ρ' else none) = _
        rw [if_neg (by omega), if_neg (by omega)]
      rw [this] at hb; cases hb
  refine ⟨ρ2, w', ⟨?_, ?_, ?_, ?_, ?_, ?_, ?_⟩, ⟨hext, hold, by rw [addT_nx]; omega, h3.size, ?_, fun b hb _ => hkeep b hb, h3.lk⟩, u, ?_, hs⟩
  · intro u o hu hd
    rcases hcase u o hu with ⟨i, z, p, rfl, hi, hp, rfl⟩ | ⟨hc, hu⟩
    · obtain ⟨b, n, ks, t, k1, k2, k3, k4, _⟩ := hz i z p hi hp
      exact ⟨b, n, by rw [hnew i z hi]; exact k1, ks, t, k2, k3, k4.map hmap⟩
    · obtain ⟨b, n, k1, k2⟩ := r.obj u o hu hd
      exact ⟨b, n, hext _ _ k1, by rw [hkeep b (r.lt u b n k1)]; exact k2.mono hext⟩
  · intro u u' o o' b n m hu hu' ho ho' k1 k2
    rcases hcase u o hu with ⟨i, z, p, rfl, hi, hp, rfl⟩ | ⟨hc, hu⟩ <;> rcases hcase u' o' hu' with ⟨j, z', p', rfl, hj, hp', rfl⟩ | ⟨hc', hu'⟩
    · rw [hnew i z hi] at k1; rw [hnew j z' hj] at k2
      obtain ⟨_, e, he, _⟩ := ht.row i z p hi hp
      obtain ⟨_, e', he', _⟩ := ht.row j z' p' hj hp'
      have := h2.inj z z' _ _ b n m he he' rfl rfl k1 k2
      subst this
      rw [ht.dist i j z hi hj]
    · rw [hnew i z hi] at k1
      obtain ⟨b2, n2, _, _, q1, _, _, _, q2, _⟩ := hz i z p hi hp
      rw [k1] at q1; injection q1 with q1; injection q1 with q1 _; subst q1
      exact absurd (r.lt u' b m (hρo u' o' b m hc' hu' k2)) (by omega)
    · rw [hnew j z' hj] at k2
      obtain ⟨b2, n2, _, _, q1, _, _, _, q2, _⟩ := hz j z' p' hj hp'
      rw [k2] at q1; injection q1 with q1; injection q1 with q1 _; subst q1
      exact absurd (r.lt u b n (hρo u o b n hc hu k1)) (by omega)
    · exact r.inj u u' o o' b n m hu hu' ho ho' (hρo u o b n hc hu k1) (hρo u' o' b m hc' hu' k2)
  · intro u o hu hd ho
    rcases hcase u o hu with ⟨i, z, p, rfl, hi, hp, rfl⟩ | ⟨hc, hu⟩
    · cases ho
    · exact r.kng u o hu hd ho
  · intro u o b n hu ho k1
    rcases hcase u o hu with ⟨i, z, p, rfl, hi, hp, rfl⟩ | ⟨hc, hu⟩
    · rw [hnew i z hi] at k1
      obtain ⟨b2, n2, _, _, q1, _, _, _, _, q2⟩ := hz i z p hi hp
      rw [k1] at q1; injection q1 with q1; injection q1 with q1 _; subst q1
      exact q2
    · exact r.big u o b n hu ho (hρo u o b n hc hu k1)
  · intro u hu
    rw [addT_nx] at hu
    have hl := ht.len
    show (if u < H.nx then ρ u else if u < H.nx + zs.length then (zs[u - H.nx]?).bind ρ' else none) = _
    rw [if_neg (by omega), if_neg (by omega)]
  · intro u b n hu
    by_cases h1 : u < H.nx
    · rw [hold u h1] at hu
      exact Nat.lt_of_lt_of_le (r.lt u b n hu) h3.size
    · by_cases h4 : u < H.nx + zs.length
      · have hi : u - H.nx < zs.length := by omega
        have := hnew (u - H.nx) _ (List.getElem?_eq_getElem hi)
        rw [show H.nx + (u - H.nx) = u by omega] at this
        rw [this] at hu
        exact h2.lt _ b n hu
      · have : ρ2 u = none := by
          show (if u < H.nx then ρ u else if u < H.nx + zs.length then (zs[u - H.nx]?).bind ρ' else none) = _
          rw [if_neg h1, if_neg h4]
        rw [this] at hu; cases hu
  · intro g hg
    obtain ⟨k, hk⟩ := r.glob g hg
    exact ⟨k, hext _ _ hk⟩
  · rintro b ⟨u, o, n, hu, ho, k1⟩
    rcases hcase u o hu with ⟨i, z, p, rfl, hi, hp, rfl⟩ | ⟨hc, hu⟩
    · rw [hnew i z hi] at k1
      obtain ⟨b2, n2, _, _, q1, _, _, _, q2, _⟩ := hz i z p hi hp
      rw [k1] at q1; injection q1 with q1; injection q1 with q1 _; subst q1
      exact .inr q2
    · exact .inl ⟨u, o, n, hu, ho, hρo u o b n hc hu k1⟩
  · exact RV.map hmap v u (ht.val _ _ h1)
/-! the check of a run against a layout -/
mutual
/-- x says less than y -/
def leV : V → V → Bool
  | .un, _ => true
  | .agg l, y => match y with
    | .agg l' => leL l l'
    | _ => false
  | .tup l, y => match y with
    | .tup l' => leL l l'
    | _ => false
  | x, y => sameV x y
def leL : List V → List V → Bool
  | [], y => match y with
    | [] => true
    | _ => false
  | x :: r, y => match y with
    | x' :: r' => both (leV x x') (leL r r')
    | [] => false
end
mutual
theorem leV_ok {ρ : Rho} : ∀ (x y : V) (u : Value), leV x y = true → RV ρ y u → RV ρ x u
  | .un, _, _, _, _ => trivial
  | .agg l, y, u, h, r => by
    cases y <;> simp only [leV] at h <;> first | (cases h; done) | skip
    obtain ⟨cs, e, k⟩ := r
    exact ⟨cs, e, leL_ok _ _ _ h k⟩
  | .tup l, y, u, h, r => by
    cases y <;> simp only [leV] at h <;> first | (cases h; done) | skip
    obtain ⟨cs, e, k⟩ := r
    exact ⟨cs, e, leL_ok _ _ _ h k⟩
  | .b _, y, u, h, r => by rw [sameV_eq _ y h]; exact r
  | .i _ _, y, u, h, r => by rw [sameV_eq _ y h]; exact r
  | .s _, y, u, h, r => by rw [sameV_eq _ y h]; exact r
  | .np, y, u, h, r => by rw [sameV_eq _ y h]; exact r
  | .p _ _, y, u, h, r => by rw [sameV_eq _ y h]; exact r
  | .nsl, y, u, h, r => by rw [sameV_eq _ y h]; exact r
  | .se, y, u, h, r => by rw [sameV_eq _ y h]; exact r
  | .sl .., y, u, h, r => by rw [sameV_eq _ y h]; exact r
  | .nm, y, u, h, r => by rw [sameV_eq _ y h]; exact r
  | .m _, y, u, h, r => by rw [sameV_eq _ y h]; exact r
  | .fn _ _, y, u, h, r => by rw [sameV_eq _ y h]; exact r
  | .yd _, y, u, h, r => by rw [sameV_eq _ y h]; exact r
  | .nf, y, u, h, r => by rw [sameV_eq _ y h]; exact r
  | .ifc _ _, y, u, h, r => by rw [sameV_eq _ y h]; exact r
  | .nifc, y, u, h, r => by rw [sameV_eq _ y h]; exact r
  | .md _ _, y, u, h, r => by rw [sameV_eq _ y h]; exact r
theorem leL_ok {ρ : Rho} : ∀ (x y : List V) (u : List Value), leL x y = true → RVs ρ y u → RVs ρ x u
  | [], y, u, h, r => by cases y <;> simp only [leL] at h <;> first | (cases h; done) | exact r
  | x :: l, y, u, h, r => by
    cases y <;> simp only [leL] at h <;> first | (cases h; done) | skip
    obtain ⟨v, vs, e, k1, k2⟩ := r
    obtain ⟨h1, h2⟩ := both_true h
    exact ⟨v, vs, e, leV_ok _ _ _ h1 k1, leL_ok _ _ _ h2 k2⟩
end
theorem leL_get : ∀ (x y : List V), leL x y = true → x.length = y.length ∧ ∀ (i : Nat) (a : V), x[i]? = some a → ∃ c, y[i]? = some c ∧ leV a c = true
  | [], y, h => by cases y <;> simp only [leL] at h <;> first | (cases h; done) | exact ⟨rfl, fun i a e => by simp at e⟩
  | x :: l, y, h => by
    cases y <;> simp only [leL] at h <;> first | (cases h; done) | skip
    obtain ⟨h1, h2⟩ := both_true h
    obtain ⟨k1, k2⟩ := leL_get _ _ h2
    refine ⟨by simp [k1], fun i a e => ?_⟩
    cases i with
    | zero => simp at e; subst e; exact ⟨_, rfl, h1⟩
    | succ i => simp at e; obtain ⟨c, e1, e2⟩ := k2 i a e; exact ⟨c, by simpa using e1, e2⟩
theorem leL_rc {ρ : Rho} {x y : List V} {cs : Array Value} (h : leL x y = true) (r : RC ρ y cs) : RC ρ x cs := by
  obtain ⟨h1, h2⟩ := leL_get x y h
  refine ⟨by rw [h1]; exact r.1, fun i a e => ?_⟩
  obtain ⟨c, e1, e2⟩ := h2 i a e
  obtain ⟨v, k1, k2⟩ := r.2 i c e1
  exact ⟨v, k1, leV_ok _ _ _ e2 k2⟩
def rowIs (l : List V) : Option O → Bool
  | some (.c l' _) => leL l l'
  | _ => false
def rowsOk (zs : List Nat) (H : Hp) : List Nat → List (List V × Nat) → Bool
  | [], [] => true
  | z :: r, (l, _) :: os => both (rowIs (mapNs (nameIn zs) l) (H.get z)) (rowsOk zs H r os)
  | _, _ => false
/-- the names rise -/
def rise : List Nat → Bool
  | [] => true
  | z :: r => match r with
    | [] => true
    | y :: _ => both (Nat.blt z y) (rise r)
def tplChk (zs : List Nat) (os : List (List V × Nat)) (v : V) : CRes → Bool
  | .ok (.ret v') _ H => both (leV (mapN (nameIn zs) v) v') (both (rise zs) (rowsOk zs H zs os))
  | _ => false
theorem rowsOk_get {zs : List Nat} {H : Hp} : ∀ {r : List Nat} {os : List (List V × Nat)}, rowsOk zs H r os = true → r.length = os.length ∧ ∀ (i z : Nat) (p : List V × Nat), r[i]? = some z → os[i]? = some p → rowIs (mapNs (nameIn zs) p.1) (H.get z) = true
  | [], [], _ => ⟨rfl, fun i z p h => by simp at h⟩
  | [], _ :: _, h => by simp [rowsOk] at h
  | _ :: _, [], h => by simp [rowsOk] at h
  | z :: r, (l, e) :: os, h => by
    simp only [rowsOk] at h
    obtain ⟨h1, h2⟩ := both_true h
    obtain ⟨k1, k2⟩ := rowsOk_get h2
    refine ⟨by simp [k1], fun i y p hi hp => ?_⟩
    cases i with
    | zero => simp at hi hp; subst hi hp; exact h1
    | succ i => simp at hi hp; exact k2 i y p hi hp
theorem rise_lt : ∀ {l : List Nat}, rise l = true → ∀ (i j x y : Nat), i < j → l[i]? = some x → l[j]? = some y → x < y
  | [], _, i, j, x, y, _, h, _ => by simp at h
  | z :: r, h, i, j, x, y, hij, hi, hj => by
    unfold rise at h
    obtain ⟨j, rfl⟩ : ∃ k, j = k + 1 := ⟨j - 1, by omega⟩
    simp at hj
    split at h
    · simp at hj
    · rename_i a r' 
      obtain ⟨h1, h2⟩ := both_true h
      have h1 := of_blt h1
      cases i with
      | zero =>
        simp at hi; subst hi
        cases j with
        | zero => simp at hj; subst hj; exact h1
        | succ j => exact Nat.lt_trans h1 (rise_lt h2 0 (j + 1) a y (by omega) (by simp) hj)
      | succ i => simp at hi; exact rise_lt h2 i j x y (by omega) hi hj
theorem tplChk_some {zs : List Nat} {os : List (List V × Nat)} {v : V} {r : CRes} (h : tplChk zs os v r = true) : ∃ v' R H', r = .ok (.ret v') R H' ∧ TplOk zs os v v' H' := by
  unfold tplChk at h
  split at h
  · rename_i v' R H'
    obtain ⟨h1, h2⟩ := both_true h
    obtain ⟨h2, h3⟩ := both_true h2
    obtain ⟨k1, k2⟩ := rowsOk_get h3
    refine ⟨v', R, H', rfl, ⟨fun ρ u hu => leV_ok _ _ _ h1 hu, k1, fun i z p hi hp => ?_, fun i j z hi hj => ?_⟩⟩
    · have := k2 i z p hi hp
      unfold rowIs at this
      split at this
      · rename_i l' e hg; exact ⟨l', e, hg, fun ρ cs hc => leL_rc this hc⟩
      · cases this
    · rcases Nat.lt_trichotomy i j with hl | hl | hl
      · exact absurd (rise_lt h2 i j z z hl hi hj) (Nat.lt_irrefl _)
      · exact hl
      · exact absurd (rise_lt h2 j i z z hl hj hi) (Nat.lt_irrefl _)
  · cases h
end
end Go.Proofs.YtmikbfdpenggjaaGreatDoor.Cv
