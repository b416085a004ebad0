/- Operations that load, store, build and cut agree with the model. Conditions: those stated in each theorem. -/
import Derived.Test.YtmikbfdpenggjaaGreatDoorCvC
import Derived.Laws.BytesString
import Derived.Laws.MakeOwn
namespace Go.Proofs.YtmikbfdpenggjaaGreatDoor.Cv
open Go
noncomputable section
section
variable {ρ : Rho} {H : Hp} {w : World} {nt : Nat} {T : Tr V} {tm : Array Value} {o : Oper} {res : R}

theorem binOp_eql {t : TypeId} {vx vy : Value} (h1 : ∀ k a k' b, ¬ (vx = .int k a ∧ vy = .int k' b)) (h2 : ∀ a b, ¬ (vx = .string a ∧ vy = .string b))
    (h3 : ∀ k a k' b, ¬ (vx = .float k a ∧ vy = .float k' b)) (h4 : ∀ k a b k' c d, ¬ (vx = .complex k a b ∧ vy = .complex k' c d)) :
    binOp .eql t vx vy = (do pure (.bool (← Op.equal t vx vy))) := by
  unfold binOp
  split <;> first
    | (rename_i e; cases e; done)
    | (exact absurd ⟨rfl, rfl⟩ (h1 _ _ _ _))
    | (exact absurd ⟨rfl, rfl⟩ (h2 _ _))
    | (exact absurd ⟨rfl, rfl⟩ (h3 _ _ _ _))
    | (exact absurd ⟨rfl, rfl⟩ (h4 _ _ _ _ _ _))
    | rfl
    | simp_all
theorem binOp_neq {t : TypeId} {vx vy : Value} (h1 : ∀ k a k' b, ¬ (vx = .int k a ∧ vy = .int k' b)) (h2 : ∀ a b, ¬ (vx = .string a ∧ vy = .string b))
    (h3 : ∀ k a k' b, ¬ (vx = .float k a ∧ vy = .float k' b)) (h4 : ∀ k a b k' c d, ¬ (vx = .complex k a b ∧ vy = .complex k' c d)) :
    binOp .neq t vx vy = (do pure (.bool (!(← Op.equal t vx vy)))) := by
  unfold binOp
  split <;> first
    | (rename_i e; cases e; done)
    | (exact absurd ⟨rfl, rfl⟩ (h1 _ _ _ _))
    | (exact absurd ⟨rfl, rfl⟩ (h2 _ _))
    | (exact absurd ⟨rfl, rfl⟩ (h3 _ _ _ _))
    | (exact absurd ⟨rfl, rfl⟩ (h4 _ _ _ _ _ _))
    | rfl
    | simp_all
def V.plain : V → Bool
  | .i _ _ => false
  | .s _ => false
  | .un => false
  | .md _ _ => false
  | _ => true
theorem eqTy_plain {t : TypeId} {x y : V} {b : Bool} (h : eqTy t x y = some b) : x.plain = true := by
  cases x <;> first | rfl | skip
  all_goals (
    unfold eqTy at h
    split at h
    all_goals first
      | (cases h; done)
      | (unfold eqSr at h; split at h <;> first | (cases h; done) | (unfold eqAg at h; cases h; done))
      | (split at h <;> first | (cases h; done) | (unfold eqP at h; cases h; done))
      | (unfold eqAr at h; cases h; done)
      | (unfold eqSl at h; cases h; done)
      | (unfold eqM at h; cases h; done)
      | (unfold eqFn at h; cases h; done)
      | (unfold eqIf at h; cases h; done)
      | (unfold eqBo at h; cases h; done))
def Value.other : Value → Bool
  | .int _ _ => false
  | .string _ => false
  | .float _ _ => false
  | .complex _ _ _ => false
  | _ => true
theorem plain_other {x : V} {v : Value} (h : RV ρ x v) (hp : x.plain = true) : Value.other v = true := by
  cases x <;> first | (cases hp; done) | skip
  all_goals (
    simp only [RV] at h
    first
      | (subst h; rfl)
      | (obtain ⟨_, rfl, _⟩ := h; rfl)
      | (obtain ⟨_, _, _, rfl⟩ := h; rfl)
      | (obtain ⟨_, _, rfl⟩ := h; rfl)
      | (obtain ⟨_, _, _, _, rfl, _⟩ := h; rfl))
theorem ok_bin (r : RH ρ H.get H.nx w) (t : RT ρ nt T tm) {op : BinOp} {ty ty' : TypeId} {x y : Operand} (ho : o.op = .binOp op ty x y ty') (h : opBin op ty (ev T x) (ev T y) = some res) :
    OpOk ρ H w ((execOp (evm tm) o).run Pg w) res := by
  cases ex : ev T x with
  | none => rw [ex] at h; cases h
  | some vx =>
    cases ey : ev T y with
    | none => rw [ex, ey] at h; cases h
    | some vy =>
      rw [ex, ey] at h
      have hx := ev_rel r.glob t ex
      have hy := ev_rel r.glob t ey
      have h : binII op ty vx vy (asI vx) (asI vy) = some res := h
      unfold binII at h
      split at h
      · rename_i k a k' c e1 e2
        rw [asI_some e1] at hx
        rw [asI_some e2] at hy
        exact bin_ints r ho hx hy h
      · unfold binSS at h
        split at h
        · rename_i a c e1 e2
          rw [asS_some e1] at hx
          rw [asS_some e2] at hy
          obtain ⟨s, hs, ha⟩ := hx
          obtain ⟨u, hu, hc⟩ := hy
          exact bin_strs r ho hs hu ha hc h
        · unfold opEq at h
          split at h
          · cases e : eqTy ty vx vy with
            | none => rw [e] at h; cases h
            | some b =>
              rw [e] at h
              have h : some (R.v (.b b)) = some res := h
              injection h with h; subst h
              obtain ⟨g, q⟩ := eqTy_ok (w := w) (op := .eql) (X := x) (Y := y) e hx hy
              have hp := plain_other hx (eqTy_plain e)
              have q : (Op.equal ty (evm tm x) (evm tm y)).run Pg w = .ok b w := q 9998
              refine .pure r (v := .bool b) ?_ rfl
              simp only [execOp, ho, Sem.run_bind, g, Result.andThen_ok]
              rw [binOp_eql (by rintro k a k' b ⟨e, _⟩; rw [e] at hp; cases hp) (by rintro a b ⟨e, _⟩; rw [e] at hp; cases hp) (by rintro k a k' b ⟨e, _⟩; rw [e] at hp; cases hp) (by rintro k a b k' c d ⟨e, _⟩; rw [e] at hp; cases hp)]
              simp only [Sem.run_bind, q, Result.andThen_ok, Sem.run_pure]
          · cases e : eqTy ty vx vy with
            | none => rw [e] at h; cases h
            | some b =>
              rw [e] at h
              have h : some (R.v (.b (notB b))) = some res := h
              injection h with h; subst h
              obtain ⟨g, q⟩ := eqTy_ok (w := w) (op := .neq) (X := x) (Y := y) e hx hy
              have hp := plain_other hx (eqTy_plain e)
              have q : (Op.equal ty (evm tm x) (evm tm y)).run Pg w = .ok b w := q 9998
              refine .pure r (v := .bool !b) ?_ (by rw [notB_eq]; rfl)
              simp only [execOp, ho, Sem.run_bind, g, Result.andThen_ok]
              rw [binOp_neq (by rintro k a k' b ⟨e, _⟩; rw [e] at hp; cases hp) (by rintro a b ⟨e, _⟩; rw [e] at hp; cases hp) (by rintro k a k' b ⟨e, _⟩; rw [e] at hp; cases hp) (by rintro k a b k' c d ⟨e, _⟩; rw [e] at hp; cases hp)]
              simp only [Sem.run_bind, q, Result.andThen_ok, Sem.run_pure]
          · cases h

/-! reading cells -/
theorem cell_at {b off : Nat} {cs : Array Value} {e : TypeId} {fz : Nat × Nat} (h : w.heap[b]? = some (.cells cs e fz)) : w.cell? ⟨b, off, none⟩ = cs[off]? := by
  simp [World.cell?, h]
/-- a block that can be read -/
def cellsOf : O → Option (List V)
  | .c l _ => some l
  | .k l => some l
  | _ => none
theorem RH.cells (r : RH ρ H.get H.nx w) {x : Nat} {ob : O} {l : List V} (h : H.get x = some ob) (hl : cellsOf ob = some l) :
    ∃ b n cs e fz, ρ x = some (b, n) ∧ w.heap[b]? = some (.cells cs e fz) ∧ RC ρ l cs := by
  cases ob <;> simp only [cellsOf] at hl <;> first | (cases hl; done) | skip
  · injection hl with hl; subst hl
    obtain ⟨b, n, e1, cs, e, e2, _, e3⟩ := r.obj x _ h rfl
    exact ⟨b, n, cs, e, _, e1, e2, e3⟩
  · injection hl with hl; subst hl
    obtain ⟨b, n, e1, cs, e, fz, e2, e3⟩ := r.obj x _ h rfl
    exact ⟨b, n, cs, e, fz, e1, e2, e3⟩
theorem loadO_some {off : Nat} {n : Option Nat} {ag : Option Bool} {ob : Option O} {v : V} (h : loadO off n ag ob = some v) : ∃ q l, ob = some q ∧ cellsOf q = some l ∧ part l off n ag = some v := by
  unfold loadO at h
  split at h
  · exact ⟨_, _, rfl, rfl, h⟩
  · exact ⟨_, _, rfl, rfl, h⟩
  · cases h
theorem subO_some {off n : Nat} {ob : Option O} {l' : List V} (h : subO off n ob = some l') : ∃ q l, ob = some q ∧ cellsOf q = some l ∧ sub l off n = some l' := by
  unfold subO at h
  split at h
  · exact ⟨_, _, rfl, rfl, h⟩
  · exact ⟨_, _, rfl, rfl, h⟩
  · cases h
/-- reading a row of cells -/
theorem load_cells {b off n : Nat} {cs : Array Value} {e : TypeId} {fz : Nat × Nat} {l l' : List V} (hb : w.heap[b]? = some (.cells cs e fz)) (hc : RC ρ l cs) (h : sub l off n = some l') :
    ∃ vs : List Value, (loadCells ⟨b, off, none⟩ n).run Pg w = .ok vs.toArray w ∧ RVs ρ l' vs ∧ vs.length = n ∧ ∀ (j : Nat) v, vs[j]? = some v → w.cell? ((⟨b, off, none⟩ : Addr).add j) = some v := by
  obtain ⟨rfl, hl⟩ := sub_eq h
  have hlen := hc.1
  rcases hl with hl | hl
  · have hlen2 : off + n ≤ cs.size := by omega
    let vs := (cs.toList.drop off).take n
    have hget : ∀ (j : Nat) v, vs[j]? = some v → w.cell? ((⟨b, off, none⟩ : Addr).add j) = some v := by
      intro j v hj
      have ha : (⟨b, off, none⟩ : Addr).add j = ⟨b, off + j, none⟩ := by unfold Addr.add; split <;> simp_all
      rw [ha, cell_at hb]
      have hj : ((cs.toList.drop off).take n)[j]? = some v := hj
      rw [List.getElem?_take] at hj
      by_cases hjn : j < n
      · rw [if_pos hjn] at hj; simpa using hj
      · rw [if_neg hjn] at hj; cases hj
    have hvl : vs.length = n := by simp [vs]; omega
    have hr := run_loadCells_list (P := Pg) w ⟨b, off, none⟩ vs hget
    rw [hvl] at hr
    refine ⟨vs, hr, ?_, hvl, hget⟩
    refine .of_get (by simp [hvl]; omega) ?_
    intro j x v hx hv
    rw [List.getElem?_take] at hx
    split at hx
    · rw [List.getElem?_drop] at hx
      obtain ⟨u, hu, k⟩ := hc.2 _ _ hx
      have hv : ((cs.toList.drop off).take n)[j]? = some v := hv
      rw [List.getElem?_take] at hv
      by_cases hjn : j < n
      · rw [if_pos hjn, List.getElem?_drop, Array.getElem?_toList, hu] at hv
        injection hv with hv; exact hv ▸ k
      · rw [if_neg hjn] at hv; cases hv
    · cases hx
  · subst hl
    exact ⟨[], by simp [loadCells, loadCellsFrom], by simp [RVs], rfl, by simp⟩
theorem load_var {b off : Nat} {t : TypeId} {cs : Array Value} {e : TypeId} {fz : Nat × Nat} {l : List V} {v : V} (hb : w.heap[b]? = some (.cells cs e fz)) (hc : RC ρ l cs) (h : part l off (siz t) (isAgg t) = some v) :
    ∃ v', (loadVar t ⟨b, off, none⟩).run Pg w = .ok v' w ∧ RV ρ v v' := by
  cases ea : isAgg t with
  | none => rw [ea] at h; cases h
  | some q =>
    rw [ea] at h
    have ha := isAgg_some (w := w) ea
    cases q with
    | false =>
      have h : nth l off = some v := h
      rw [nth_eq] at h
      obtain ⟨u, hu, hr⟩ := hc.2 _ _ h
      exact ⟨u, by simp [loadVar, ha, cell_at hb, hu], hr⟩
    | true =>
      cases es : siz t with
      | none => rw [es] at h; cases h
      | some n =>
        rw [es] at h
        have h : agg? (sub l off n) = some v := h
        cases e : sub l off n with
        | none => rw [e] at h; cases h
        | some q =>
          rw [e] at h
          have h : some (V.agg q) = some v := h
          injection h with h; subst h
          obtain ⟨vs, h1, h2, _⟩ := load_cells hb hc e
          obtain ⟨i, ei, rfl⟩ := siz_some es
          exact ⟨.agg vs.toArray, by simp [loadVar, ha, Go.sizeOf, typeInfo, ei, h1], _, rfl, h2⟩
theorem ok_load (r : RH ρ H.get H.nx w) (t : RT ρ nt T tm) {ty : TypeId} {x : Operand} (ho : o.op = .load ty x) (h : opLoad ty H (ev T x) = some res) :
    OpOk ρ H w ((execOp (evm tm) o).run Pg w) res := by
  cases e : ev T x with
  | none => rw [e] at h; cases h
  | some v =>
    rw [e] at h
    have h : loadP ty H (asP v) = some res := h
    cases ep : asP v with
    | none => rw [ep] at h; cases h
    | some q =>
      obtain ⟨y, off⟩ := q
      rw [ep] at h
      have h : val (loadO off (siz ty) (isAgg ty) (H.get y)) = some res := h
      obtain ⟨u, hu, rfl⟩ := val_some h
      obtain ⟨q, l, e1, e2, e3⟩ := loadO_some hu
      obtain ⟨b, n, cs, e4, fz, e5, e6, e7⟩ := r.cells e1 e2
      have hv := ev_rel r.glob t e
      rw [asP_some ep] at hv
      obtain ⟨b', n', e8, hx⟩ := hv
      rw [e5] at e8
      injection e8 with e8
      injection e8 with e8 _
      subst e8
      obtain ⟨v', e9, hr⟩ := load_var e6 e7 e3
      exact .pure r (by simp [execOp, ho, Instr.loadAt, hx, Instr.sureAddr, e9]) hr
theorem byteCells_ok : ∀ {l : List V} {ns : List Nat} {vs : List Value}, byteCells l = some ns → RVs ρ l vs → vs = ns.map (fun (n : Nat) => Value.int .u8 n) ∧ ∀ n ∈ ns, n < 256
  | [], ns, vs, h, hr => by simp [byteCells] at h; subst h; cases hr; simp
  | x :: r, ns, vs, h, hr => by
    obtain ⟨v, vs', rfl, hx, hr⟩ := hr
    unfold byteCells at h
    split at h
    · rename_i e; cases e
    · rename_i c r' e
      injection e with e1 e2
      subst e1 e2
      split at h
      · rename_i l' el hb
        injection h with h; subst h
        obtain ⟨h1, h2⟩ := byteCells_ok el hr
        have hx : v = _ := hx
        subst hx h1
        have hb := of_blt hb
        refine ⟨by simp, ?_⟩
        intro n hn
        rcases List.mem_cons.1 hn with rfl | hn
        · exact hb
        · exact h2 n hn
      · cases h
    · cases h
theorem byteL_ofNats : ∀ (ns : List Nat), (∀ n ∈ ns, n < 256) → byteL (ns.map fun n => UInt8.ofNat n) = ns
  | [], _ => rfl
  | n :: r, h => by
    have hn := h n (by simp)
    simp only [List.map_cons, byteL]
    rw [byteL_ofNats r fun m hm => h m (by simp [hm])]
    congr 1
    simp [UInt8.toNat_ofNat, Nat.mod_eq_of_lt hn]
theorem foldl_push : ∀ (ns : List Int) (s : ByteArray), (ns.foldl (fun r n => r.push (UInt8.ofNat n.toNat)) s).data.toList = s.data.toList ++ ns.map fun n => UInt8.ofNat n.toNat
  | [], s => by simp
  | n :: r, s => by simp only [List.foldl_cons, foldl_push r]; simp [ByteArray.push]
theorem isBytes_some {t : TypeId} (h : isBytes t = true) : ∃ e, Pg.underlying t = some (.slice e) ∧ Pg.underlying e = some (.int .u8) := by
  unfold isBytes sliceElem at h
  cases ed : und t with
  | none => rw [ed] at h; cases h
  | some d =>
    rw [ed] at h
    cases d <;> first | (cases h; done) | skip
    rename_i e
    simp only at h
    split at h
    · rename_i ee; exact ⟨e, ed, ee⟩
    · cases h
theorem ok_convert (r : RH ρ H.get H.nx w) (t : RT ρ nt T tm) {src dst : TypeId} {x : Operand} (ho : o.op = .convert src dst x) (h : opConvert src dst H (ev T x) = some res) :
    OpOk ρ H w ((execOp (evm tm) o).run Pg w) res := by
  unfold opConvert at h
  split at h
  · rename_i d k k0 n ed es ev
    injection h with h; subst h
    have ed : Pg.underlying src = some d := ed
    have es : Pg.underlying dst = some (.int k) := es
    have hv : evm tm x = .int k0 n := ev_rel r.glob t ev
    refine .pure r (v := .int k (k.wrap n)) ?_ (by rw [wrapI_eq]; rfl)
    simp [execOp, ho, convert, underlying, ed, es, hv, Conv.intToInt]
  · rename_i d l ed es ev
    injection h with h; subst h
    have ed : Pg.underlying src = some d := ed
    have es : Pg.underlying dst = some .string := es
    obtain ⟨s, hs, hr⟩ := ev_rel r.glob t ev
    refine .pure r (v := .string s) ?_ ⟨s, rfl, hr⟩
    simp [execOp, ho, convert, underlying, ed, es, hs]
  · rename_i d ed es ev
    split at h
    · rename_i hb
      obtain ⟨e, h1, h2⟩ := isBytes_some hb
      injection h with h; subst h
      have es : Pg.underlying dst = some .string := es
      have hv : evm tm x = .slice none 0 0 := ev_rel r.glob t ev
      refine .pure r (v := .string .empty) ?_ ⟨_, rfl, rfl⟩
      simp [execOp, ho, hv, run_convert_bytes_string w src dst e none 0 0 h1 h2 es, Conv.bytesToString]
    · cases h
  · rename_i d ed es ev
    split at h
    · rename_i hb
      obtain ⟨e, h1, h2⟩ := isBytes_some hb
      injection h with h; subst h
      have es : Pg.underlying dst = some .string := es
      obtain ⟨a, c, hv⟩ := ev_rel r.glob t ev
      refine .pure r (v := .string .empty) ?_ ⟨_, rfl, rfl⟩
      have hb := run_bytesToString (P := Pg) w a 0 c [] (by simp [loadCells, loadCellsFrom])
      simp only [execOp, ho, hv, Sem.run_bind, run_convert_bytes_string w src dst e (some a) 0 c h1 h2 es, hb, Result.andThen_ok, Sem.run_pure]
      rfl
    · cases h
  · rename_i d y off n cap esz ed es ev
    split at h
    · rename_i hb
      obtain ⟨e, h1, h2⟩ := isBytes_some hb
      have es : Pg.underlying dst = some .string := es
      obtain ⟨b, m, c, e5, hv, _⟩ := ev_rel r.glob t ev
      cases ec : subO off n (H.get y) with
      | none => rw [ec] at h; cases h
      | some l' =>
        rw [ec] at h
        have h : str? (byteCells l') = some res := h
        cases eb : byteCells l' with
        | none => rw [eb] at h; cases h
        | some ns =>
          rw [eb] at h
          have h : some (R.v (.s ns)) = some res := h
          injection h with h; subst h
          obtain ⟨q, l, g1, g2, g3⟩ := subO_some ec
          obtain ⟨b', n', cs, e4, fz, e6, e7, e8⟩ := r.cells g1 g2
          rw [e5] at e6
          injection e6 with e6
          injection e6 with e6 _
          subst e6
          obtain ⟨vs, k1, k2, _⟩ := load_cells e7 e8 g3
          obtain ⟨rfl, hlt⟩ := byteCells_ok eb k2
          have hb := run_bytesToString (P := Pg) w ⟨b, off, none⟩ n c (ns.map fun (n : Nat) => (n : Int)) (by rw [k1]; simp)
          refine .pure r (v := .string ((ns.map fun (n : Nat) => (n : Int)).foldl (fun r n => r.push (UInt8.ofNat n.toNat)) ByteArray.empty)) ?_ ⟨_, rfl, ?_⟩
          · simp only [execOp, ho, hv, Sem.run_bind, run_convert_bytes_string w src dst e _ n c h1 h2 es, hb, Result.andThen_ok, Sem.run_pure]
          rw [foldl_push]
          simp only [List.map_map]
          have : (fun n => UInt8.ofNat n.toNat) ∘ (fun (n : Nat) => (n : Int)) = fun n : Nat => UInt8.ofNat n := by funext n; simp
          rw [this]
          simpa using byteL_ofNats ns hlt
    · cases h
  · cases h
end
end
end Go.Proofs.YtmikbfdpenggjaaGreatDoor.Cv
namespace Go.Proofs.YtmikbfdpenggjaaGreatDoor.Cv
open Go
noncomputable section
section
variable {ρ : Rho} {H : Hp} {w : World} {nt : Nat} {T : Tr V} {tm : Array Value} {o : Oper} {res : R}

theorem okV_one {x : V} {v : Value} (h : RV ρ x v) (hk : okV x = true) : v.oneCell' = true := by
  cases x <;> first | (cases hk; done) | skip
  all_goals (
    simp only [RV] at h
    first
      | (subst h; rfl)
      | (obtain ⟨_, rfl, _⟩ := h; rfl)
      | (obtain ⟨_, _, _, rfl⟩ := h; rfl)
      | (obtain ⟨_, _, rfl⟩ := h; rfl)
      | (obtain ⟨_, _, _, _, rfl, _⟩ := h; rfl))
theorem okL_one : ∀ {l : List V} {vs : List Value}, RVs ρ l vs → okL l = true → ∀ v ∈ vs, v.oneCell' = true
  | [], _, h, _, v, hv => by cases h; simp at hv
  | x :: r, _, ⟨u, us, e, h1, h2⟩, hk, v, hv => by
    subst e
    simp only [okL] at hk
    split at hk
    · rename_i hx
      rcases List.mem_cons.1 hv with rfl | hv
      · exact okV_one h1 hx
      · exact okL_one h2 hk v hv
    · cases hk
/-- cells set -/
theorem rc_set {l l' : List V} {off : Nat} {vs : List V} {us : List Value} {cs : Array Value} (hc : RC ρ l cs) (hs : setCells l off vs = some l') (hr : RVs ρ vs us) :
    (off + us.length ≤ cs.size ∨ us = []) ∧ RC ρ l' (cs.toList.take off ++ us ++ cs.toList.drop (off + us.length)).toArray ∧ (off + us.length ≤ cs.size → (cs.toList.take off ++ us ++ cs.toList.drop (off + us.length)).toArray.size = cs.size) := by
  obtain ⟨h1, h2, h3⟩ := setCells_get hs
  have hl := hr.len
  have hcl := hc.1
  have hfit : off + us.length ≤ cs.size ∨ us = [] := by
    rcases h2 with h2 | h2
    · left; omega
    · right; subst h2; cases us; rfl; simp at hl
  refine ⟨hfit, ⟨?_, ?_⟩, ?_⟩
  · rw [h1]; simp; omega
  · intro i x hx
    rw [h3] at hx
    by_cases hi : off ≤ i ∧ i < off + vs.length
    · rw [if_pos hi] at hx
      obtain ⟨v, hv, hr'⟩ := hr.get hx
      refine ⟨v, ?_, hr'⟩
      have hf : off + us.length ≤ cs.size := by
        rcases hfit with hf | hf
        · exact hf
        · subst hf; simp at hv
      simp only [List.getElem?_toArray]
      rw [List.append_assoc, List.getElem?_append_right (by simp; omega), List.getElem?_append_left (by simp; omega)]
      rw [← hv]; congr 1; simp; omega
    · rw [if_neg hi] at hx
      obtain ⟨v, hv, hr'⟩ := hc.2 _ _ hx
      refine ⟨v, ?_, hr'⟩
      have hic : i < cs.size := by
        rcases Nat.lt_or_ge i cs.size with h | h
        · exact h
        · rw [Array.getElem?_eq_none h] at hv; cases hv
      simp only [List.getElem?_toArray]
      by_cases h4 : i < off
      · rw [List.append_assoc, List.getElem?_append_left (by simp; omega)]
        simp [List.getElem?_take, h4, hv]
      · rw [List.getElem?_append_right (by simp; omega)]
        simp
        rw [show off + us.length + (i - (min off cs.size + us.length)) = i by omega]
        exact hv
  · intro hf; simp; omega
theorem storeH_ok (r : RH ρ H.get H.nx w) {x off b n : Nat} {vs : List V} {us : List Value} {H' : Hp} (h : storeH H x off vs = some H') (hr : RVs ρ vs us) (hb : ρ x = some (b, n)) :
    ∃ w', (storeCells ⟨b, off, none⟩ us).run Pg w = .ok () w' ∧ RH ρ H'.get H'.nx w' ∧ To ρ H.get H.nx w ρ H'.get H'.nx w' := by
  unfold storeH at h
  split at h
  · rename_i hk
    cases e : H.get x with
    | none => rw [e] at h; cases h
    | some ob =>
      rw [e] at h
      cases ob <;> first | (cases h; done) | skip
      rename_i l el
      have h : putO H x (cellsSet el (setCells l off vs)) = some H' := h
      cases es : setCells l off vs with
      | none => rw [es] at h; cases h
      | some l' =>
        rw [es] at h
        have h : some (H.set x (.c l' el)) = some H' := h
        injection h with h; subst h
        obtain ⟨b', n', e1, cs, e', e2, e3, e4⟩ := r.obj x _ e rfl
        rw [hb] at e1
        injection e1 with e1
        injection e1 with e1 e1'
        subst e1 e1'
        obtain ⟨h1, h2, h3⟩ := rc_set e4 es hr
        rw [get_set_fun, Hp.nx_set]
        rcases h1 with h1 | h1
        · have run := run_storeCells_at Pg b off e' us 0 cs w e2 (by omega) (okL_one hr hk)
          simp only [Nat.add_zero] at run
          refine ⟨_, run, ?_⟩
          exact r.upd (o' := .c l' el) e rfl hb (upd_setRow _ e2) (.inl rfl) ⟨_, _, rfl, by rw [h3 h1]; exact e3, h2⟩
        · subst h1
          refine ⟨w, rfl, ?_⟩
          have hw : Upd w w b (.cells cs e' (0, 0)) := ⟨rfl, e2, fun _ _ => rfl, .refl _⟩
          refine r.upd (o' := .c l' el) e rfl hb hw (.inl rfl) ⟨_, _, rfl, e3, ?_⟩
          have hv : vs = [] := by have := hr.len; cases vs; rfl; simp at this
          subst hv
          simp [setCells] at es
          subst es
          exact e4
  · cases h
theorem ok_store (r : RH ρ H.get H.nx w) (t : RT ρ nt T tm) {ty : TypeId} {a x : Operand} (ho : o.op = .store ty a x) (h : opStore H (siz ty) (ev T a) (ev T x) = some res) :
    OpOk ρ H w ((execOp (evm tm) o).run Pg w) res := by
  unfold opStore at h
  split at h
  · rename_i va vx n ea ex es
    cases ep : asP va with
    | none => rw [ep] at h; cases h
    | some q =>
      obtain ⟨y, off⟩ := q
      rw [ep] at h
      have h : storeB H y off vx.cells (Nat.beq vx.cells.length (n + 1)) = some res := h
      unfold storeB at h
      split at h
      · rename_i hl
        have hl := of_beq hl
        cases eh : storeH H y off vx.cells with
        | none => rw [eh] at h; cases h
        | some H' =>
          rw [eh] at h
          have h : some (R.h undefV H') = some res := h
          injection h with h; subst h
          have hv := ev_rel r.glob t ea
          rw [asP_some ep] at hv
          obtain ⟨b, m, hb, ha⟩ := hv
          have hx := cells_rvs (ev_rel r.glob t ex) hl
          obtain ⟨w', run, r', to⟩ := storeH_ok r eh hx hb
          obtain ⟨i, ei, hi⟩ := siz_some es
          have hsz : (evm tm x).cells.size = i.size := by have := hx.len; simp at this; omega
          exact ⟨ρ, .skip, undef, w', by simp [execOp, ho, Instr.storeAt, ha, Instr.sureAddr, storeVar, Go.sizeOf, typeInfo, ei, hsz, run], .inr ⟨rfl, rfl⟩, ⟨#[], rfl, rfl⟩, r', to⟩
      · cases h
  · cases h
/-- a new block -/
theorem OpOk.new (r : RH ρ H.get H.nx w) {ob : O} {x : Obj} {n : Nat} {run : Result Next} {w' : World} {v : V} {v' : Value} (hr : RO (updR ρ H.nx w.heap.size n) n ob (some x))
    (hrun : run = .ok (.value v') w') (hw : w'.heap = w.heap.push x) (hv : RV (updR ρ H.nx w.heap.size n) v v') (how : ob.own = true := by rfl) (lk : Like w w' := by exact ⟨rfl, rfl⟩) : OpOk ρ H w run (.h v (H.new ob)) := by
  have h := r.add (x := H.nx) (n := n) (nx' := H.nx + 1) (r.fresh _ (Nat.le_refl _)) (by omega) (by omega) (by omega) how hw hr lk
  refine ⟨_, _, v', w', hrun, .inl rfl, hv, ?_⟩
  rw [get_new_fun, Hp.nx_new]
  exact h
theorem pv (ρ : Rho) (x b n off : Nat) : RV (updR ρ x b n) (.p x off) (.pointer (some ⟨b, off, none⟩)) := ⟨b, n, by simp [updR], rfl⟩
theorem RC.upd {l : List V} {cs : Array Value} (r : RH ρ H.get H.nx w) {b n : Nat} (h : RC ρ l cs) : RC (updR ρ H.nx b n) l cs := h.mono (ext_updR (r.fresh _ (Nat.le_refl _)))
theorem newP_some {ob : Option O} (h : newP H ob = some res) : ∃ q, ob = some q ∧ res = .h (.p H.nx 0) (H.new q) := by
  cases ob with
  | none => cases h
  | some q => injection h with h; exact ⟨q, rfl, h.symm⟩
theorem cellsO_some {e : TypeId} {l : Option (List V)} {q : O} (h : cellsO e l = some q) : ∃ l', l = some l' ∧ q = .c l' e := by
  cases l with
  | none => cases h
  | some l' => injection h with h; exact ⟨l', rfl, h.symm⟩
theorem cells?_some {v : Option V} {l : List V} (h : cells? v = some l) : ∃ x, v = some x ∧ l = x.cells := by
  cases v with
  | none => cases h
  | some x => injection h with h; exact ⟨x, rfl, h.symm⟩
theorem ok_alloc (r : RH ρ H.get H.nx w) {e : TypeId} (ho : o.op = .alloc e) (h : newP H (mkAlloc e) = some res) : OpOk ρ H w ((execOp (evm tm) o).run Pg w) res := by
  obtain ⟨q, h1, rfl⟩ := newP_some h
  obtain ⟨l, h2, rfl⟩ := cellsO_some h1
  obtain ⟨z, h3, rfl⟩ := cells?_some h2
  obtain ⟨i, v, e1, e2, e3⟩ := zeroV_some h3
  have hr := cells_rc (ofVal_rel ρ e3)
  exact .new (x := .cells v.cells e) (n := v.cells.size) r ⟨_, _, rfl, rfl, hr.upd r⟩ (by simp [execOp, ho, Instr.alloc, zeroValue, typeInfo, e1, e2, newVar, newRow]; rfl) rfl (pv ..)
theorem ok_box (r : RH ρ H.get H.nx w) (t : RT ρ nt T tm) {e : TypeId} {x : Operand} (ho : o.op = .box e x) (h : newP H (mkBox e (ev T x)) = some res) : OpOk ρ H w ((execOp (evm tm) o).run Pg w) res := by
  obtain ⟨q, h1, rfl⟩ := newP_some h
  obtain ⟨l, h2, rfl⟩ := cellsO_some h1
  obtain ⟨z, h3, rfl⟩ := cells?_some h2
  have hr := cells_rc (ev_rel r.glob t h3)
  exact .new (x := .cells (evm tm x).cells e) (n := (evm tm x).cells.size) r ⟨_, _, rfl, rfl, hr.upd r⟩ (by simp [execOp, ho, Instr.box, newVar, newRow]; rfl) rfl (pv ..)
/-! literals -/
theorem foldl_set : ∀ (vs : List Value) (off k : Nat) (cs : Array Value), off + k + vs.length ≤ cs.size →
    ((vs.zipIdx k).foldl (fun cs x => cs.setIfInBounds (off + x.2) x.1) cs).toList = cs.toList.take (off + k) ++ vs ++ cs.toList.drop (off + k + vs.length)
  | [], off, k, cs, h => by simp
  | v :: vs, off, k, cs, h => by
    simp at h
    simp only [List.zipIdx_cons, List.foldl_cons]
    rw [foldl_set vs off (k + 1) _ (by simp; omega)]
    have e := list_seg_step cs.toList (off + k) v vs (by simp; omega)
    simpa [Array.toList_setIfInBounds, Nat.add_assoc] using e
theorem fill_step (cs : Array Value) (v : Value) (off : Nat) (h : off + v.cells.size ≤ cs.size) :
    v.cells.zipIdx.foldl (fun cs (x : Value × Nat) => cs.setIfInBounds (off + x.2) x.1) cs = (cs.toList.take off ++ v.cells.toList ++ cs.toList.drop (off + v.cells.toList.length)).toArray := by
  have e := foldl_set v.cells.toList off 0 cs (by simpa using h)
  rw [← Array.foldl_toList, Array.toList_zipIdx]
  apply Array.toList_inj.1
  simpa using e
/-- the parts of a literal, placed -/
theorem place_step {cs : List V} {cc : Array Value} {off n : Nat} {x : Option V} {v : Value} {l : List V} (hc : RC ρ cs cc) (h : placeOne (some cs) off n x = some l) (hx : ∀ y, x = some y → RV ρ y v) :
    v.cells.size = n ∧ off + v.cells.size ≤ cc.size ∧ RC ρ l (v.cells.zipIdx.foldl (fun cs (x : Value × Nat) => cs.setIfInBounds (off + x.2) x.1) cc) ∧ (v.cells.zipIdx.foldl (fun cs (x : Value × Nat) => cs.setIfInBounds (off + x.2) x.1) cc).size = cc.size ∧ l.length = cs.length := by
  unfold placeOne at h
  split at h
  · rename_i n' y
    simp only at h
    split at h
    · rename_i hl
      have hl := of_beq hl
      have hr := cells_rvs (hx y rfl) hl
      have hlen := hr.len
      obtain ⟨h1, h2, h3⟩ := rc_set hc h hr
      have hn : v.cells.size = n' + 1 := by simp at hlen; omega
      have h1 : off + v.cells.size ≤ cc.size := by
        rcases h1 with h1 | h1
        · simpa using h1
        · rw [h1] at hlen; simp at hlen; rw [hlen] at hl; simp at hl
      rw [fill_step cc v off h1]
      exact ⟨hn, h1, h2, h3 (by simpa using h1), (setCells_get h).1⟩
    · cases h
  · cases h
theorem placeOne_none {off n : Nat} {x : Option V} : placeOne none off n x = none := by
  unfold placeOne
  split
  · rfl
  · rfl
theorem placeF_none (fs : Array Field) : ∀ (ps : List (Nat × Operand)), placeF fs T ps none = none
  | [] => rfl
  | (i, x) :: r => by
    unfold placeF
    split
    · split
      · rw [placeOne_none]; exact placeF_none fs r
      · rfl
    · rfl
theorem placeE_none (n : Nat) : ∀ (ps : List (Nat × Operand)), placeE n T ps none = none
  | [] => rfl
  | (i, x) :: r => by unfold placeE; rw [placeOne_none]; exact placeE_none n r
theorem placeF_ok (g : Glob ρ) (t : RT ρ nt T tm) {fs : Array Field} {pl : Array (Nat × Nat)} (hpl : ∀ (i : Nat) f, fs[i]? = some f → ∃ n, siz f.type = some n ∧ pl[i]? = some (f.offset, n)) :
    ∀ (ps : List (Nat × Operand)) (cs l : List V) (cc : Array Value), RC ρ cs cc → placeF fs T ps (some cs) = some l →
    ∃ cc', Instr.fill (pl[·]?) cc (ps.map fun p => (p.1, evm tm p.2)) = some cc' ∧ RC ρ l cc' ∧ cc'.size = cc.size ∧ l.length = cs.length
  | [], cs, l, cc, hc, h => by simp [placeF] at h; subst h; exact ⟨cc, rfl, hc, rfl, rfl⟩
  | (i, x) :: r, cs, l, cc, hc, h => by
    unfold placeF at h
    split at h
    · rename_i f ef
      split at h
      · rename_i n en
        cases e : placeOne (some cs) f.offset n (ev T x) with
        | none => rw [e, placeF_none] at h; cases h
        | some cs' =>
          rw [e] at h
          obtain ⟨h1, h2, h3, h4, h4'⟩ := place_step (v := evm tm x) hc e fun y ey => ev_rel g t ey
          obtain ⟨cc', h5, h6, h7, h8⟩ := placeF_ok g t hpl r cs' l _ h3 h
          obtain ⟨n', en', hp⟩ := hpl i f ef
          rw [en] at en'
          injection en' with en'
          subst en'
          refine ⟨cc', ?_, h6, by omega, by rw [h8, h4']⟩
          simp only [List.map_cons, Instr.fill, hp]
          rw [if_neg (by simp; omega)]
          exact h5
      · cases h
    · cases h
theorem placeE_ok (g : Glob ρ) (t : RT ρ nt T tm) {n : Nat} :
    ∀ (ps : List (Nat × Operand)) (cs l : List V) (cc : Array Value), RC ρ cs cc → placeE n T ps (some cs) = some l →
    ∃ cc', Instr.fill (fun i => some (i * n, n)) cc (ps.map fun p => (p.1, evm tm p.2)) = some cc' ∧ RC ρ l cc' ∧ cc'.size = cc.size ∧ l.length = cs.length
  | [], cs, l, cc, hc, h => by simp [placeE] at h; subst h; exact ⟨cc, rfl, hc, rfl, rfl⟩
  | (i, x) :: r, cs, l, cc, hc, h => by
    unfold placeE at h
    cases e : placeOne (some cs) (i * n) n (ev T x) with
    | none => rw [e, placeE_none] at h; cases h
    | some cs' =>
      rw [e] at h
      obtain ⟨h1, h2, h3, h4, h4'⟩ := place_step (v := evm tm x) hc e fun y ey => ev_rel g t ey
      obtain ⟨cc', h5, h6, h7, h8⟩ := placeE_ok g t r cs' l _ h3 h
      refine ⟨cc', ?_, h6, by omega, by rw [h8, h4']⟩
      simp only [List.map_cons, Instr.fill]
      rw [if_neg (by simp; omega)]
      exact h5
end
end
end Go.Proofs.YtmikbfdpenggjaaGreatDoor.Cv
namespace Go.Proofs.YtmikbfdpenggjaaGreatDoor.Cv
open Go
noncomputable section
section
variable {ρ : Rho} {H : Hp} {w : World} {nt : Nat} {T : Tr V} {tm : Array Value} {o : Oper} {res : R}
theorem RC.rvs {l : List V} {cs : Array Value} (h : RC ρ l cs) (e : l.length = cs.size) : RVs ρ l cs.toList := by
  refine .of_get (by simpa using e) fun i x v hx hv => ?_
  obtain ⟨u, hu, k⟩ := h.2 _ _ hx
  rw [Array.getElem?_toList, hu] at hv
  injection hv with hv
  exact hv ▸ k
theorem ofVal1_one {v : Value} {x : V} (h : ofVal1 v = some x) : x.cells = [x] ∧ v.cells = #[v] := by
  unfold ofVal1 at h
  split at h <;> first | (cases h; done) | (injection h with h; subst h; exact ⟨rfl, rfl⟩)
theorem ofVal_cells (ρ : Rho) {v : Value} {x : V} (h : ofVal v = some x) : RVs ρ x.cells v.cells.toList := by
  have hr := ofVal_rel ρ h
  unfold ofVal at h
  split at h
  · rename_i l
    cases e : ofVals l with
    | none => simp [e, agg?] at h
    | some q =>
      simp [e, agg?] at h
      subst h
      exact ofVals_rel ρ e
  · obtain ⟨e1, e2⟩ := ofVal1_one h
    rw [e1, e2]
    exact .one hr
theorem mapM_places : ∀ (fs : List Field), (∀ f ∈ fs, ∃ i, Pg.info? f.type = some i) → ∃ pl, fs.mapM (fun f => (Pg.info? f.type).map fun i => (f.offset, i.size)) = some pl ∧
    ∀ (i : Nat) f, fs[i]? = some f → ∃ n, siz f.type = some n ∧ pl[i]? = some (f.offset, n)
  | [], _ => ⟨[], by simp, by simp⟩
  | f :: fs, h => by
    obtain ⟨i, ei⟩ := h f (by simp)
    obtain ⟨pl, e, hp⟩ := mapM_places fs fun g hg => h g (by simp [hg])
    refine ⟨(f.offset, i.size) :: pl, by simp [List.mapM_cons, ei, e], ?_⟩
    intro j g hj
    cases j with
    | zero => simp at hj; subst hj; exact ⟨i.size, by simp [siz, ei], rfl⟩
    | succ j => simp at hj; obtain ⟨n, h1, h2⟩ := hp j g hj; exact ⟨n, h1, by simpa using h2⟩
theorem agg?_some {l : Option (List V)} {v : V} (h : agg? l = some v) : ∃ q, l = some q ∧ v = .agg q := by
  cases l with
  | none => cases h
  | some q => injection h with h; exact ⟨q, rfl, h.symm⟩
theorem ok_build (P : PgOk) (r : RH ρ H.get H.nx w) (t : RT ρ nt T tm) {ty : TypeId} {ps : Array (Nat × Operand)} (ho : o.op = .build ty ps) (h : opBuild ty ps T = some res) :
    OpOk ρ H w ((execOp (evm tm) o).run Pg w) res := by
  have hmap : (ps.map fun x => (x.1, evm tm x.2)).toList = ps.toList.map fun p => (p.1, evm tm p.2) := by simp
  unfold opBuild at h
  split at h
  · rename_i fs ed
    have ed : Pg.underlying ty = some (.struct fs) := ed
    obtain ⟨v, h', rfl⟩ := val_some h
    obtain ⟨q, h'', rfl⟩ := agg?_some h'
    clear h h'
    have h := h''
    clear h''
    cases ec : cells? (zeroV ty) with
    | none => rw [ec, placeF_none] at h; cases h
    | some cs =>
      rw [ec] at h
      obtain ⟨z, ez, rfl⟩ := cells?_some ec
      obtain ⟨i, zv, e1, e2, e3⟩ := zeroV_some ez
      have hz := ofVal_cells ρ e3
      have hc : RC ρ z.cells zv.cells := cells_rc (ofVal_rel ρ e3)
      obtain ⟨pl, ep, hp⟩ := mapM_places fs.toList (P.fields ty fs (zeroV_lt ez) ed)
      obtain ⟨cc, h1, h2, h3, h4⟩ := placeF_ok (pl := pl.toArray) r.glob t (fs := fs) (fun i f hf => by
        obtain ⟨n, a, b⟩ := hp i f (by simpa using hf); exact ⟨n, a, by simpa using b⟩) ps.toList _ q zv.cells hc h
      have hb : Pg.built ty (ps.map fun x => (x.1, evm tm x.2)).toList = some cc := by
        rw [hmap]
        simp only [Program.built, e1, ed, e2, ep]
        exact h1
      refine .pure r (v := .agg cc) ?_ ⟨cc, rfl, h2.rvs (by have := hz.len; simp at this; omega)⟩
      simp only [execOp, ho, Sem.run_bind, run_build w ty _ cc hb, Result.andThen_ok, Sem.run_pure]
  · rename_i n e ed
    have ed : Pg.underlying ty = some (.array n e) := ed
    split at h
    · rename_i m em
      obtain ⟨v, h', rfl⟩ := val_some h
      obtain ⟨q, h'', rfl⟩ := agg?_some h'
      clear h h'
      have h := h''
      clear h''
      cases ec : cells? (zeroV ty) with
      | none => rw [ec, placeE_none] at h; cases h
      | some cs =>
        rw [ec] at h
        obtain ⟨z, ez, rfl⟩ := cells?_some ec
        obtain ⟨i, zv, e1, e2, e3⟩ := zeroV_some ez
        have hz := ofVal_cells ρ e3
        have hc : RC ρ z.cells zv.cells := cells_rc (ofVal_rel ρ e3)
        obtain ⟨ie, eie, hie⟩ := siz_some em
        obtain ⟨cc, h1, h2, h3, h4⟩ := placeE_ok r.glob t ps.toList _ q zv.cells hc h
        have hb : Pg.built ty (ps.map fun x => (x.1, evm tm x.2)).toList = some cc := by
          rw [hmap]
          simp only [Program.built, e1, ed, e2, eie, hie]
          exact h1
        refine .pure r (v := .agg cc) ?_ ⟨cc, rfl, h2.rvs (by have := hz.len; simp at this; omega)⟩
        simp only [execOp, ho, Sem.run_bind, run_build w ty _ cc hb, Result.andThen_ok, Sem.run_pure]
    · cases h
  · cases h
theorem rep_len (z : List V) : ∀ n, (rep z n).length = n * z.length
  | 0 => by simp [rep]
  | n + 1 => by simp [rep, rep_len z n, Nat.add_mul, Nat.add_comm]
theorem rep_get (z : List V) : ∀ (n i : Nat) (x : V), (rep z n)[i]? = some x → z[i % z.length]? = some x
  | 0, i, x, h => by simp [rep] at h
  | n + 1, i, x, h => by
    simp only [rep] at h
    by_cases hi : i < z.length
    · rw [List.getElem?_append_left hi] at h
      rwa [Nat.mod_eq_of_lt hi]
    · rw [List.getElem?_append_right (by omega)] at h
      have := rep_get z n _ x h
      rwa [Nat.mod_eq_sub_mod (by omega)]
/-- zero cells, n times -/
theorem rc_rep {z : V} {zv : Value} (hz : RVs ρ z.cells zv.cells.toList) (n : Nat) : RC ρ (rep z.cells n) (madeCells zv.cells (n * zv.cells.size)) := by
  have hl := hz.len
  simp at hl
  refine ⟨by rw [rep_len, size_madeCells, hl]; exact Nat.le_refl _, fun i x hx => ?_⟩
  have hi : i < n * zv.cells.size := by
    have := (List.getElem?_eq_some_iff.1 hx).1
    rw [rep_len, hl] at this
    exact this
  have hg := rep_get _ _ _ _ hx
  obtain ⟨v, hv, k⟩ := hz.get hg
  rw [hl, Array.getElem?_toList] at hv
  refine ⟨v, ?_, k⟩
  have hlt := (Array.getElem?_eq_some_iff.1 hv).1
  have hv2 := (Array.getElem?_eq_some_iff.1 hv).2
  simp only [madeCells, Array.getElem?_map, Array.getElem?_range, hi, if_true, Option.map_some]
  congr 1
  rw [getElem!_pos zv.cells _ hlt]
  exact hv2
theorem RC.congr {l : List V} {cs cs' : Array Value} (h : RC ρ l cs) (e : cs = cs') : RC ρ l cs' := e ▸ h
theorem rc_nil {cs : Array Value} : RC ρ [] cs := ⟨Nat.zero_le _, fun _ _ h => by simp at h⟩
theorem rep_zero_len (z : List V) (n : Nat) (h : n * z.length = 0) : rep z n = [] := by
  have := rep_len z n
  rw [h] at this
  exact List.length_eq_zero_iff.1 this
theorem sliceElem_some {t e : TypeId} (h : sliceElem t = some e) : Pg.underlying t = some (.slice e) := by
  unfold sliceElem at h
  split at h
  · rename_i ed; injection h with h; subst h; exact ed
  · cases h
theorem newS_some {n c : Nat} {esz : Option Nat} {ob : Option O} (h : newS H n c esz ob = some res) : ∃ s q, esz = some s ∧ ob = some q ∧ res = .h (.sl H.nx 0 n (c + 1) s) (H.new q) := by
  unfold newS at h
  split at h
  · injection h with h; exact ⟨_, _, rfl, rfl, h.symm⟩
  · cases h
theorem slv (ρ : Rho) (x b n len c esz : Nat) (h : len ≤ c) : RV (updR ρ x b n) (.sl x 0 len (c + 1) esz) (.slice (some ⟨b, 0, none⟩) len c) :=
  ⟨b, n, c, by simp [updR], rfl, h, rfl⟩
theorem rep?_some {n : Nat} {z : Option (List V)} {l : List V} (h : rep? n z = some l) : ∃ q, z = some q ∧ l = rep q n := by
  cases z with
  | none => cases h
  | some q => injection h with h; exact ⟨q, rfl, h.symm⟩
theorem ok_makeSlice (P : PgOk) (r : RH ρ H.get H.nx w) (t : RT ρ nt T tm) {ty : TypeId} {a c : Operand} (ho : o.op = .makeSlice ty a c) (h : opMakeSlice ty H (idx (ev T a)) (idx (ev T c)) = some res) :
    OpOk ρ H w ((execOp (evm tm) o).run Pg w) res := by
  unfold opMakeSlice at h
  split at h
  · rename_i e ee
    have ed := sliceElem_some ee
    unfold makeSl at h
    split at h
    · rename_i l c' el ec
      split at h
      · rename_i hb1 hb2
        obtain ⟨hb2, hb3⟩ := both_true hb2
        have hb1 := of_ble hb1
        have hb2 := of_ble hb2
        obtain ⟨s, q, es, eq, rfl⟩ := newS_some h
        obtain ⟨l', e1, rfl⟩ := cellsO_some eq
        obtain ⟨zl, e2, rfl⟩ := rep?_some e1
        obtain ⟨z, ez, rfl⟩ := cells?_some e2
        obtain ⟨i, zv, e3, e4, e5⟩ := zeroV_some ez
        obtain ⟨kl, hl⟩ := idx_some el
        obtain ⟨kc, hc⟩ := idx_some ec
        have hl : evm tm a = .int kl (.ofNat l) := ev_rel r.glob t hl
        have hc : evm tm c = .int kc (.ofNat c') := ev_rel r.glob t hc
        have hby : i.bytes ≤ 1048576 := by
          unfold smallB byteSize at hb3
          rw [e3] at hb3
          exact of_ble hb3
        have hz := ofVal_cells ρ e5
        have hsz := P.zero e i zv (zeroV_lt ez) e3 e4
        have run := run_make (P := Pg) w ty e i zv ed e3 e4 kl kc (.ofNat l) (.ofNat c') (by simp) (by simpa using hb1)
          (by
            have : i.bytes * c' ≤ 1048576 * 1048576 := Nat.mul_le_mul hby hb2
            have h2 : ((i.bytes * c' : Nat) : Int) ≤ 281474976710656 := by omega
            simpa [Int.natCast_mul] using h2) (by simp; omega)
        refine .new (x := .cells (madeCells zv.cells (c' * i.size)) e) (n := c' * i.size) r ⟨_, _, rfl, size_madeCells _ _, ?_⟩ (v' := .slice (some ⟨w.heap.size, 0, none⟩) l c') (w' := w.alloc (.cells (madeCells zv.cells (c' * i.size)) e)) ?_ rfl (slv _ _ _ _ _ _ _ hb1)
        · rw [← hsz]
          exact (rc_rep hz c').upd r
        · simp only [execOp, ho, hl, hc, Sem.run_bind, run, Result.andThen_ok, Sem.run_pure]
          rfl
      · cases h
    · cases h
  · cases h
theorem ok_buildSlice (P : PgOk) (r : RH ρ H.get H.nx w) (t : RT ρ nt T tm) {ty : TypeId} {n : Nat} {ps : Array (Nat × Operand)} (ho : o.op = .buildSlice ty n ps) (h : opBuildSlice ty n ps T H = some res) :
    OpOk ρ H w ((execOp (evm tm) o).run Pg w) res := by
  have hmap : (ps.map fun x => (x.1, evm tm x.2)).toList = ps.toList.map fun p => (p.1, evm tm p.2) := by simp
  unfold opBuildSlice at h
  split at h
  · rename_i e ee
    have ed := sliceElem_some ee
    obtain ⟨s, q, es, eq, rfl⟩ := newS_some h
    rw [es] at eq
    unfold litSz at eq
    simp only at eq
    split at eq
    · rename_i hb
      have hb := of_ble hb
      simp only [mkSliceLit] at eq
      obtain ⟨l', e1, rfl⟩ := cellsO_some eq
      cases e2 : rep? n (cells? (zeroV e)) with
      | none => rw [e2, placeE_none] at e1; cases e1
      | some cs =>
        rw [e2] at e1
        obtain ⟨zl, e2', rfl⟩ := rep?_some e2
        obtain ⟨z, ez, rfl⟩ := cells?_some e2'
        obtain ⟨i, zv, e3, e4, e5⟩ := zeroV_some ez
        obtain ⟨i', ei', rfl⟩ := siz_some es
        rw [e3] at ei'
        injection ei' with ei'
        subst ei'
        have hz := ofVal_cells ρ e5
        have hsz := P.zero e i zv (zeroV_lt ez) e3 e4
        have hc : RC ρ (rep z.cells n) ((Array.range (n * i.size)).map ((if n * i.size = 0 then #[] else zv.cells)[· % (if n * i.size = 0 then #[] else zv.cells).size]!)) := by
          by_cases h0 : n * i.size = 0
          · rw [rep_zero_len _ _ (by have := hz.len; simp at this; rw [this, hsz]; exact h0)]
            exact rc_nil
          · simp only [h0, if_false]
            have := rc_rep hz n
            rw [hsz] at this
            exact this
        obtain ⟨cc, h1, h2, h3, h4⟩ := placeE_ok r.glob t ps.toList _ l' _ hc e1
        have hn : ¬ n * i.size > 2 ^ 24 := by omega
        refine .new (x := .cells cc e) (n := cc.size) r ⟨_, _, rfl, rfl, h2.upd r⟩ (v' := .slice (some ⟨w.heap.size, 0, none⟩) n n) (w' := w.alloc (.cells cc e)) ?_ rfl (slv _ _ _ _ _ _ _ (Nat.le_refl _))
        rw [← hmap] at h1
        by_cases h0 : n * i.size = 0
        · simp only [h0, if_true] at h1
          simp only [execOp, ho, Instr.buildSlice, Sem.run_bind, run_underlying ed, Result.andThen_ok, Go.sizeOf, typeInfo, run_program, e3, Sem.run_pure, Sem.run_ite, hn, if_false, h0, if_true, h1]
          simp [newRow]
        · simp only [h0, if_false] at h1
          simp only [execOp, ho, Instr.buildSlice, Sem.run_bind, run_underlying ed, Result.andThen_ok, Go.sizeOf, typeInfo, run_program, e3, Sem.run_pure, Sem.run_ite, hn, if_false, h0, zeroValue, e4, h1]
          simp [newRow]
    · cases eq
  · cases h
end
end
end Go.Proofs.YtmikbfdpenggjaaGreatDoor.Cv
namespace Go.Proofs.YtmikbfdpenggjaaGreatDoor.Cv
open Go
noncomputable section
section
variable {ρ : Rho} {H : Hp} {w : World} {nt : Nat} {T : Tr V} {tm : Array Value} {o : Oper} {res : R}
theorem REs.len : ∀ {l : List (V × V × Nat)} {es : List MapEntry}, REs ρ l es → l.length = es.length
  | [], _, e => by cases e; rfl
  | (_, _, _) :: _, _, ⟨e, es', a, _, _, _, f⟩ => by subst a; simp [REs.len f]
/-- a bound of a slice expression -/
theorem bnd_ok (g : Glob ρ) (t : RT ρ nt T tm) {d n y : Nat} {x : Operand} (h : bnd d (some x) T = some n) (hy : n ≤ y) (code : BoundsCode) : (Instr.sliceBound (evm tm x) y code).run Pg w = .ok n w := by
  obtain ⟨k, hk⟩ := idx_some h
  have hv : evm tm x = .int k (.ofNat n) := ev_rel g t hk
  simp [hv, Instr.sliceBound, asIntOf]
  intro h0; omega
theorem bnd_none {d n : Nat} (h : bnd d none T = some n) : n = d := by injection h with h; exact h.symm
theorem bounds_ok (g : Glob ρ) (t : RT ρ nt T tm) {isS : Bool} {len cap l h m : Nat} {lo hi mx : Option Operand} (hnm : ¬ (hi = none ∧ mx ≠ none))
    (el : bnd 0 lo T = some l) (eh : bnd len hi T = some h) (em : bnd cap mx T = some m) (h1 : l ≤ h) (h2 : h ≤ m) (h3 : m ≤ cap) :
    (Instr.sliceBounds isS len cap (lo.map (evm tm)) (hi.map (evm tm)) (mx.map (evm tm))).run Pg w = .ok (l, h, m) w := by
  unfold Instr.sliceBounds
  cases mx with
  | none =>
    have cm := bnd_none em
    subst cm
    cases hi with
    | none =>
      have c2 := bnd_none eh
      subst c2
      cases lo with
      | none => have cl := bnd_none el; subst cl; simp
      | some lo => have cl := bnd_ok (w := w) g t el h1; simp [cl]
    | some hi =>
      have c2 := bnd_ok (w := w) g t eh h2
      cases lo with
      | none => have cl := bnd_none el; subst cl; simp [c2]
      | some lo => have cl := bnd_ok (w := w) g t el h1; simp [c2, cl]
  | some mx =>
    have cm := bnd_ok (w := w) g t em h3
    cases hi with
    | none => exact absurd ⟨rfl, by simp⟩ hnm
    | some hi =>
      have c1 := bnd_ok (w := w) g t eh h2
      cases lo with
      | none => have cl := bnd_none el; subst cl; simp [cm, c1]
      | some lo => have cl := bnd_ok (w := w) g t el h1; simp [cm, c1, cl]
theorem bndM_some {c m : Nat} {mx : Option Operand} (h : bndM c mx T = some m) : bnd c mx T = some m ∧ m ≤ c := by
  cases mx with
  | none => injection h with h; subst h; exact ⟨rfl, Nat.le_refl _⟩
  | some x =>
    have h : bndM1 c (idx (ev T x)) = some m := h
    cases hi : idx (ev T x) with
    | none => rw [hi] at h; cases h
    | some q =>
      rw [hi] at h
      unfold bndM1 at h
      simp only at h
      split at h
      · rename_i hb; injection h with h; subst h; exact ⟨hi, of_ble hb⟩
      · cases h
theorem add_eq (b off k : Nat) : (⟨b, off, none⟩ : Addr).add k = ⟨b, off + k, none⟩ := by unfold Addr.add; split <;> simp_all
theorem takeS_eq : ∀ (n : Nat) (l : List Nat), takeS n l = l.take n
  | 0, _ => rfl
  | _ + 1, [] => rfl
  | n + 1, x :: r => by simp [takeS, takeS_eq n r]
theorem dropS_eq : ∀ (n : Nat) (l : List Nat), dropS n l = l.drop n
  | 0, _ => rfl
  | _ + 1, [] => rfl
  | n + 1, _ :: r => by simp [dropS, dropS_eq n r]
theorem run_sl (g : Glob ρ) (t : RT ρ nt T tm) {ty e : TypeId} {x : Operand} {lo hi mx : Option Operand} {a : Option Addr} {len cap l h m esz : Nat} (ho : o.op = .slice ty x lo hi mx) (hx : evm tm x = .slice a len cap)
    (ed : Pg.underlying ty = some (.slice e)) (es : siz e = some esz) (el : bnd 0 lo T = some l) (eh : bnd len hi T = some h) (em : bnd cap mx T = some m) (hnm : ¬ (hi = none ∧ mx ≠ none)) (h1 : l ≤ h) (h2 : h ≤ m) (h3 : m ≤ cap) :
    (execOp (evm tm) o).run Pg w = .ok (.value (.slice (if m = l then a else a.map (·.add (l * esz))) (h - l) (m - l))) w := by
  obtain ⟨i, ei, hi'⟩ := siz_some es
  have hbd := bounds_ok (w := w) (isS := true) g t hnm el eh em h1 h2 h3
  simp [execOp, ho, Instr.sliceAt, run_underlying ed, Instr.slice, hx, hbd, Go.sizeOf, typeInfo, ei, hi']
theorem ok_slice (r : RH ρ H.get H.nx w) (t : RT ρ nt T tm) {ty : TypeId} {x : Operand} {lo hi mx : Option Operand} (ho : o.op = .slice ty x lo hi mx) (h : opSlice ty x lo hi mx T = some res) :
    OpOk ρ H w ((execOp (evm tm) o).run Pg w) res := by
  have hnm : ¬ (hi = none ∧ mx ≠ none) := by
    rintro ⟨h1, h2⟩
    subst h1
    cases mx with
    | none => exact h2 rfl
    | some m => cases h
  replace h : opSlice1 ty x lo hi mx T = some res := by
    unfold opSlice at h
    split at h
    · cases h
    · exact h
  unfold opSlice1 at h
  split at h
  · -- an array's address
    rename_i b off ex
    obtain ⟨bb, n0, hb, hx⟩ := ev_rel r.glob t ex
    unfold opSliceP at h
    split at h
    · rename_i n e ed
      have ed : Pg.underlying ty = some (.array n e) := ed
      split at h
      · rename_i esz es
        obtain ⟨i, ei, hi'⟩ := siz_some es
        unfold sliceK at h
        split at h
        · rename_i l hh m el eh em
          obtain ⟨em, b3⟩ := bndM_some em
          split at h
          · rename_i b1 b2
            have b1 := of_ble b1
            have b2 := of_ble b2
            have hbd := bounds_ok (w := w) (isS := false) r.glob t hnm el eh em b1 b2 b3
            have run : (execOp (evm tm) o).run Pg w = .ok (.value (.slice (some (if m = l then ⟨bb, off, none⟩ else ⟨bb, off + l * esz, none⟩)) (hh - l) (m - l))) w := by
              simp only [execOp, ho, Instr.sliceAt, Sem.run_bind, run_underlying ed, Result.andThen_ok, hx, Instr.sureAddr, Sem.run_pure, hbd, Go.sizeOf, typeInfo, run_program, ei, hi', add_eq]
            rw [run]
            split at h
            · rename_i hml
              have hml := of_beq hml
              injection h with h; subst h
              exact .pure r (by rw [if_pos hml]) ⟨bb, n0, _, hb, rfl, by omega, rfl⟩
            · rename_i hml
              have hml := of_beq_f hml
              injection h with h; subst h
              exact .pure r (by rw [if_neg hml]) ⟨bb, n0, _, hb, rfl, by omega, rfl⟩
          · cases h
        · cases h
      · cases h
    · cases h
  · -- a string
    rename_i l ex
    obtain ⟨s, hx, hs⟩ := ev_rel r.glob t ex
    split at h
    · rename_i ed
      have ed : Pg.underlying ty = some .string := ed
      unfold sliceS at h
      split at h
      · rename_i lo' hi' el eh
        split at h
        · rename_i b1 b2
          have b1 := of_ble b1
          have b2 := of_ble b2
          injection h with h; subst h
          have hlen : l.length = s.size := by rw [← hs, byteL_eq]; simp
          rw [hlen] at eh b2
          have hbd := bounds_ok (w := w) (isS := false) (len := s.size) (cap := s.size) (m := s.size) (mx := none) r.glob t (by simp) el eh rfl b1 b2 (Nat.le_refl _)
          refine .pure r (v := .string (s.extract lo' hi')) ?_ ⟨_, rfl, ?_⟩
          · simp only [Option.map_none] at hbd
            simp [execOp, ho, Instr.sliceAt, run_underlying ed, Instr.slice, hx, hbd]
          · rw [takeS_eq, dropS_eq, ← hs, byteL_eq, byteL_eq]
            simp [ByteArray.data_extract, List.map_take, List.map_drop]
        · cases h
      · cases h
    · cases h
  · -- nil
    rename_i ex
    have hx : evm tm x = .slice none 0 0 := ev_rel r.glob t ex
    split at h
    · rename_i e ed
      have ed := sliceElem_some ed
      split at h
      · rename_i esz es
        unfold sliceN at h
        split at h
        · rename_i el eh
          injection h with h; subst h
          have run := run_sl (w := w) (o := o) r.glob t ho hx ed es el eh rfl (by simp) (Nat.le_refl _) (Nat.le_refl _) (Nat.le_refl _)
          exact .pure r (by rw [run]; rfl) rfl
        · cases h
      · cases h
    · cases h
  · -- empty
    rename_i ex
    obtain ⟨a, c, hx⟩ := ev_rel r.glob t ex
    split at h
    · rename_i e ed
      have ed := sliceElem_some ed
      split at h
      · rename_i esz es
        unfold sliceN at h
        split at h
        · rename_i el eh
          injection h with h; subst h
          have run := run_sl (w := w) (o := o) r.glob t ho hx ed es el eh rfl (by simp) (Nat.le_refl _) (Nat.zero_le _) (Nat.le_refl _)
          refine .pure r (by rw [run]) ?_
          split
          · exact ⟨_, _, rfl⟩
          · exact ⟨_, _, rfl⟩
        · cases h
      · cases h
    · cases h
  · -- a capacity that is not known
    rename_i y off len esz ex
    obtain ⟨bb, n0, c, hb, hx, hc1, hc2⟩ := ev_rel r.glob t ex
    split at h
    · rename_i e ed
      have ed := sliceElem_some ed
      split at h
      · rename_i m es
        split at h
        · rename_i hm
          have hm := of_beq hm
          subst hm
          unfold sliceU at h
          split at h
          · rename_i l hh el eh
            split at h
            · rename_i b1 b2
              have b1 := of_ble b1
              have b2 := of_ble b2
              have run := run_sl (w := w) (o := o) r.glob t ho hx ed es el eh rfl (by simp) b1 (by omega) (Nat.le_refl _)
              split at h
              · rename_i hl
                have hl := of_beq hl
                injection h with h; subst h
                refine .pure r run ?_
                have hz : hh - l = 0 := by omega
                rw [hz]
                split
                · exact ⟨_, _, rfl⟩
                · exact ⟨_, _, rfl⟩
              · rename_i hl
                have hl := of_beq_f hl
                injection h with h; subst h
                refine .pure r run ?_
                rw [if_neg (by omega)]
                refine ⟨bb, n0, c - l, hb, by simp [add_eq], by omega, ?_⟩
                have : l * m + (c - l) * m = c * m := by rw [← Nat.add_mul]; congr 1; omega
                omega
            · cases h
          · cases h
        · cases h
      · cases h
    · cases h
  · -- a known capacity
    rename_i y off len c' esz ex
    obtain ⟨bb, n0, c, hb, hx, hc1, hc2⟩ := ev_rel r.glob t ex
    subst hc2
    split at h
    · rename_i e ed
      have ed := sliceElem_some ed
      split at h
      · rename_i m es
        split at h
        · rename_i hm
          have hm := of_beq hm
          subst hm
          unfold sliceK at h
          split at h
          · rename_i l hh mm el eh em
            obtain ⟨em, b3⟩ := bndM_some em
            split at h
            · rename_i b1 b2
              have b1 := of_ble b1
              have b2 := of_ble b2
              have run := run_sl (w := w) (o := o) r.glob t ho hx ed es el eh em hnm b1 b2 b3
              split at h
              · rename_i hml
                have hml := of_beq hml
                injection h with h; subst h
                exact .pure r run (by rw [if_pos hml]; exact ⟨bb, n0, _, hb, rfl, by omega, rfl⟩)
              · rename_i hml
                have hml := of_beq_f hml
                injection h with h; subst h
                exact .pure r run (by rw [if_neg hml]; exact ⟨bb, n0, _, hb, by simp [add_eq], by omega, rfl⟩)
            · cases h
          · cases h
        · cases h
      · cases h
    · cases h
  · cases h
theorem ok_len (r : RH ρ H.get H.nx w) {ty rt : TypeId} {ts : List TypeId} {x : V} {v : Value} (hv : RV ρ x v) (h : opLen ty H (some x) = some res) :
    ∃ u, (Builtin.len_ ((ty :: ts).toArray) rt #[v]).run Pg w = .ok u w ∧ ∃ y, res = .v y ∧ RV ρ y u := by
  have go : ∀ n : Nat, res = .v (.i .i64 (.ofNat n)) → ∀ u, u = goInt n → ∃ y, res = .v y ∧ RV ρ y u := fun n e u eu => ⟨_, e, by subst eu; rfl⟩
  unfold opLen at h
  split at h
  · rename_i y e
    injection e with e; subst e
    obtain ⟨b, n, hb, rfl⟩ := hv
    split at h
    · rename_i k el ed
      have ed : Pg.underlying ty = some (.map k el) := ed
      unfold lenMap at h
      split at h
      · rename_i es c eg
        injection h with h
        obtain ⟨b', n', e1, es', e2, e3⟩ := r.obj y _ eg rfl
        rw [hb] at e1
        injection e1 with e1; injection e1 with e1 _; subst e1
        refine ⟨goInt es'.size, by simp [Builtin.len_, underlying, ed, getObj, Sem.run, e2], go es.length h.symm _ ?_⟩
        rw [REs.len e3]; simp
      · cases h
    · cases h
  · rename_i y hne e
    injection e with e; subst e
    cases en : lenV ty x with
    | none => rw [en] at h; cases h
    | some n =>
      rw [en] at h
      injection h with h
      refine ⟨goInt n, ?_, go n h.symm _ rfl⟩
      have hs : ∀ s k, isSlT (und ty) k = some n → ∀ a c, v = .slice a s c → k = s → (Builtin.len_ ((ty :: ts).toArray) rt #[v]).run Pg w = .ok (goInt n) w := by
        intro s k h1 a c h2 h3
        unfold isSlT at h1
        split at h1
        · rename_i ed
          have ed : Pg.underlying ty = some _ := ed
          injection h1 with h1
          subst h2 h3 h1
          simp [Builtin.len_, underlying, ed]
        · cases h1
      cases x <;> simp only [lenV] at en <;> first | (cases en; done) | skip
      · obtain ⟨s, rfl, hr⟩ := hv
        unfold isStT at en
        split at en
        · rename_i ed
          have ed : Pg.underlying ty = some _ := ed
          injection en with en
          have : s.size = n := by rw [← en, ← hr, byteL_eq]; simp
          simp [Builtin.len_, underlying, ed, this]
        · cases en
      · obtain ⟨b, m, hb, rfl⟩ := hv
        split at en
        · rename_i a ed
          have ed : Pg.underlying ty = some _ := ed
          split at en
          · rename_i k e ed2
            have ed2 : Pg.underlying a = some _ := ed2
            injection en with en; subst en
            simp [Builtin.len_, underlying, ed, ed2]
          · cases en
        · cases en
      · exact hs 0 0 en _ _ hv rfl
      · obtain ⟨a, c, hv⟩ := hv
        exact hs 0 0 en _ _ hv rfl
      · obtain ⟨b, m, c, hb, hv, _⟩ := hv
        exact hs _ _ en _ _ hv rfl
      · have hv : v = .map none := hv
        subst hv
        unfold isMpT at en
        split at en
        · rename_i ed
          have ed : Pg.underlying ty = some _ := ed
          injection en with en; subst en
          simp [Builtin.len_, underlying, ed]
        · cases en
      · obtain ⟨cs, rfl, _⟩ := hv
        split at en
        · rename_i k e ed
          have ed : Pg.underlying ty = some _ := ed
          injection en with en; subst en
          simp [Builtin.len_, underlying, ed]
        · cases en
  · rename_i e; cases e
end
end
end Go.Proofs.YtmikbfdpenggjaaGreatDoor.Cv
namespace Go.Proofs.YtmikbfdpenggjaaGreatDoor.Cv
open Go
noncomputable section
section
variable {ρ : Rho} {H : Hp} {w : World} {nt : Nat} {T : Tr V} {tm : Array Value} {o : Oper} {res : R}
theorem eqKey_ok {t : TypeId} {x y : V} {vx vy : Value} {b : Bool} (h : eqKey t x y = some b) (hx : RV ρ x vx) (hy : RV ρ y vy) : (Op.equal t vx vy).run Pg w = .ok b w := by
  unfold eqKey at h
  split at h
  · rename_i fs ed; exact (eqSr_ok ed h hx hy 9998).1
  · rename_i n e ed; exact (eqAr_ok ed h hx hy 9998).1
  · exact eqS1_ok h hx hy 9999
theorem simple_und {t : TypeId} (h : simpleKey t = true) : (∃ k, Pg.underlying t = some (.int k)) ∨ Pg.underlying t = some .string ∨ Pg.underlying t = some .bool := by
  unfold simpleKey at h
  split at h
  · rename_i k ed; exact .inl ⟨k, ed⟩
  · rename_i ed; exact .inr (.inl ed)
  · rename_i ed; exact .inr (.inr ed)
  · cases h
theorem checkKey_simple {t : TypeId} {v : Value} (h : simpleKey t = true) (em : Bool) (n : Nat) : (Instr.checkKey em (n + 1) t v).run Pg w = .ok () w := by
  rcases simple_und h with ⟨k, ed⟩ | ed | ed <;> simp [Instr.checkKey, run_underlying ed]
theorem forIn_unit {α : Type} (f : α → PUnit → Sem (ForInStep PUnit)) : ∀ (l : List α), (∀ x ∈ l, (f x PUnit.unit).run Pg w = .ok (.yield PUnit.unit) w) → (forIn l PUnit.unit f).run Pg w = .ok PUnit.unit w
  | [], _ => by simp
  | x :: r, h => by
    simp only [List.forIn_cons, Sem.run_bind, h x (by simp), Result.andThen_ok]
    exact forIn_unit f r fun y hy => h y (by simp [hy])
theorem flatF_off : ∀ (fs : List Field) (i : Nat), flatF fs i = true → ∀ f ∈ fs, simpleKey f.type = true ∧ f.offset < i + fs.length
  | [], _, _, f, hf => by simp at hf
  | g :: fs, i, h, f, hf => by
    unfold flatF at h
    obtain ⟨h1, h2⟩ := both_true h
    obtain ⟨h3, h4⟩ := both_true h1
    obtain ⟨_, h6⟩ := both_true h2
    have h3 := of_beq h3
    rcases List.mem_cons.1 hf with rfl | hf
    · exact ⟨h4, by simp; omega⟩
    · have := flatF_off fs _ h6 f hf; exact ⟨this.1, by simp; omega⟩
theorem checkKey_ok {t : TypeId} {x : V} {v : Value} (h : keyV t x = true) (hx : RV ρ x v) (em : Bool) (n : Nat) : (Instr.checkKey em (n + 2) t v).run Pg w = .ok () w := by
  unfold keyV at h
  split at h
  · exact checkKey_simple h em _
  · exact checkKey_simple h em _
  · exact checkKey_simple h em _
  · rename_i l
    obtain ⟨cs, rfl, hr⟩ := hx
    have hlen := hr.len
    obtain ⟨m', hm'⟩ : ∃ m', m' = n + 1 := ⟨_, rfl⟩
    have ck : ∀ {t : TypeId} {v : Value}, simpleKey t = true → (Instr.checkKey em m' t v).run Pg w = .ok () w := by
      intro t v ht; rw [hm']; exact checkKey_simple ht em n
    rw [show n + 2 = m' + 1 by omega]
    clear hm'
    split at h
    · rename_i fs ed
      have ed : Pg.underlying t = some (.struct fs) := ed
      obtain ⟨h1, h2⟩ := both_true h
      have h2 := of_ble h2
      simp only [Instr.checkKey, Sem.run_bind, run_underlying ed, Result.andThen_ok]
      rw [← Array.forIn_toList, forIn_unit]
      · rfl
      intro f hf
      obtain ⟨s1, s2⟩ := flatF_off _ _ h1 f hf
      have hlt : f.offset < cs.size := by simp at hlen h2 s2; omega
      simp only [Sem.run_ite, Sem.run_bind, Sem.run_pure]
      split
      · rw [simple_part s1 (Array.getElem?_eq_getElem hlt)]
        simp [ck s1]
      · rfl
    · rename_i m e ed
      have ed : Pg.underlying t = some (.array m e) := ed
      obtain ⟨h1, h2⟩ := both_true h
      obtain ⟨h3, h4⟩ := both_true h1
      have h2 := of_ble h2
      obtain ⟨i, ei, hi⟩ := oneN_some h4
      simp only [Instr.checkKey, Sem.run_bind, run_underlying ed, Result.andThen_ok]
      simp only [Std.Legacy.Range.forIn_eq_forIn_range', Std.Legacy.Range.size, Nat.sub_zero, Nat.add_one_sub_one, Nat.div_one]
      rw [forIn_unit]
      · rfl
      intro j hj
      have hj : j < m := by simp at hj; omega
      have hlt : j * 1 < cs.size := by simp at hlen h2; omega
      have p := simple_part (w := w) h3 (Array.getElem?_eq_getElem hlt)
      simp only [Sem.run_bind, Go.sizeOf, typeInfo, run_program, Result.andThen_ok, ei, Sem.run_pure, hi, p, ck h3]
    · cases h
  · cases h
/-- what 'findE' finds -/
def Fnd (ρ : Rho) : Option (Nat × V) → Option (Nat × Value) → Prop
  | none, q => q = none
  | some (i, x), q => ∃ v, q = some (i, v) ∧ RV ρ x v
theorem findAsking_ok {kt : TypeId} {k : V} {vk : Value} (hk : RV ρ k vk) : ∀ (l : List (V × V × Nat)) (es : List MapEntry) (i : Nat) (q : Option (Nat × V)), findE kt k l i = some q → REs ρ l es →
    ∃ q', (Instr.findAsking kt vk es i).run Pg w = .ok q' w ∧ Fnd ρ q q'
  | [], es, i, q, h, he => by
    cases he
    injection h with h; subst h
    exact ⟨none, by simp [Instr.findAsking], rfl⟩
  | (k', v, c) :: l, es, i, q, h, he => by
    obtain ⟨e, es', rfl, h1, h2, h3, h4⟩ := he
    unfold findE at h
    cases eb : eqKey kt k k' with
    | none => rw [eb] at h; cases h
    | some b =>
      rw [eb] at h
      have run := eqKey_ok (w := w) eb hk h1
      cases b with
      | true => injection h with h; subst h; exact ⟨some (i, e.val), by simp [Instr.findAsking, run], _, rfl, h2⟩
      | false =>
        obtain ⟨q', r1, r2⟩ := findAsking_ok hk l es' (i + 1) q h h4
        exact ⟨q', by simp [Instr.findAsking, run, r1], r2⟩
theorem eqS1_now {t : TypeId} {x y : V} {vx vy : Value} {b : Bool} {d : TypeDesc} (ed : und t = some d) (h : eqS1 (und t) x y = some b) (hx : RV ρ x vx) (hy : RV ρ y vy) : Instr.sameNow d vx vy = some b := by
  unfold eqS1 at h
  rw [ed] at h
  split at h
  · rename_i k e
    injection e with e; subst e
    unfold eqIn at h
    split at h
    · split at h
      · rename_i hk
        have hk := eqK_eq hk
        subst hk
        injection h with h
        have hx : vx = _ := hx
        have hy : vy = _ := hy
        rw [hx, hy]
        simp [Instr.sameNow, c_eq, h]
      · cases h
    · cases h
  · rename_i e
    injection e with e; subst e
    unfold eqSt at h
    split at h
    · injection h with h
      obtain ⟨s, rfl, hs⟩ := hx
      obtain ⟨u, rfl, hu⟩ := hy
      simp only [Instr.sameNow]
      rw [beq_toListBytes, ← eqS_bytes, hs, hu, h]
    · cases h
  · rename_i e
    injection e with e; subst e
    unfold eqBo at h
    split at h
    · injection h with h
      have hx : vx = _ := hx
      have hy : vy = _ := hy
      rw [hx, hy]
      simp [Instr.sameNow, h]
    · cases h
  · cases h
theorem findNow_ok {kt : TypeId} {k : V} {vk : Value} {d : TypeDesc} (ed : und kt = some d) (hd : ∀ x y, eqKey kt x y = eqS1 (und kt) x y) (hk : RV ρ k vk) : ∀ (l : List (V × V × Nat)) (es : List MapEntry) (i : Nat) (q : Option (Nat × V)), findE kt k l i = some q → REs ρ l es →
    ∃ q', Instr.findNow d vk es i = some q' ∧ Fnd ρ q q'
  | [], es, i, q, h, he => by
    cases he
    injection h with h; subst h
    exact ⟨none, rfl, rfl⟩
  | (k', v, c) :: l, es, i, q, h, he => by
    obtain ⟨e, es', rfl, h1, h2, h3, h4⟩ := he
    unfold findE at h
    cases eb : eqKey kt k k' with
    | none => rw [eb] at h; cases h
    | some b =>
      rw [eb] at h
      rw [hd] at eb
      have run := eqS1_now ed eb hk h1
      cases b with
      | true => injection h with h; subst h; exact ⟨some (i, e.val), by simp [Instr.findNow, run], _, rfl, h2⟩
      | false =>
        obtain ⟨q', r1, r2⟩ := findNow_ok ed hd hk l es' (i + 1) q h h4
        exact ⟨q', by simp [Instr.findNow, run, r1], r2⟩
theorem findKey_ok {kt : TypeId} {k : V} {vk : Value} (hk : RV ρ k vk) (hv : keyV kt k = true) {l : List (V × V × Nat)} {es : List MapEntry} {q : Option (Nat × V)} (h : findE kt k l 0 = some q) (he : REs ρ l es) :
    ∃ q', (Instr.findKey kt vk es).run Pg w = .ok q' w ∧ Fnd ρ q q' := by
  cases ed : und kt with
  | none => cases k <;> simp [keyV, simpleKey, ed] at hv
  | some d =>
    have ed' : Pg.underlying kt = some d := ed
    by_cases hs : (∃ fs, d = .struct fs) ∨ (∃ n e, d = .array n e)
    · have hn : ∀ (x y : Value), Instr.sameNow d x y = none := by
        rcases hs with ⟨fs, rfl⟩ | ⟨n, e, rfl⟩ <;> intro x y <;> cases x <;> cases y <;> rfl
      cases es with
      | nil =>
        cases l with
        | nil => injection h with h; subst h; exact ⟨none, by simp [Instr.findKey, run_underlying ed', Instr.findNow], rfl⟩
        | cons x l => obtain ⟨a, b, c⟩ := x; obtain ⟨e, es', e1, _⟩ := he; cases e1
      | cons e es =>
        obtain ⟨q', r1, r2⟩ := findAsking_ok (w := w) hk l (e :: es) 0 q h he
        exact ⟨q', by simp [Instr.findKey, run_underlying ed', Instr.findNow, hn, r1], r2⟩
    · have hd : ∀ x y, eqKey kt x y = eqS1 (und kt) x y := by
        intro x y
        unfold eqKey
        rw [ed]
        split
        · rename_i fs e; injection e with e; exact absurd (.inl ⟨fs, e⟩) hs
        · rename_i n e' e; injection e with e; exact absurd (.inr ⟨n, e', e⟩) hs
        · rfl
      obtain ⟨q', r1, r2⟩ := findNow_ok ed hd hk l es 0 q h he
      exact ⟨q', by simp [Instr.findKey, run_underlying ed', r1], r2⟩
theorem keyOk_some {t : TypeId} {k : Option V} (h : keyOk t k = true) : ∃ x, k = some x ∧ keyV t x = true := by
  cases k with
  | none => cases h
  | some x => exact ⟨x, rfl, h⟩
def lookVal (e : TypeId) (ok : Bool) : Option (Nat × Value) → Sem Value
  | some (_, v) => pure (if ok = true then .tuple #[v, .bool true] else v)
  | none => (fun a => if ok = true then .tuple #[a, .bool false] else a) <$> zeroValue e
def lookRest (kt e : TypeId) (vk : Value) (ok : Bool) (es : Array MapEntry) : Sem Value := do
  Instr.checkKey es.isEmpty 10000 kt vk
  let q ← Instr.findKey kt vk es.toList
  lookVal e ok q
theorem run_getMap {b : Nat} {es : Array MapEntry} {c : Nat} (h : w.heap[b]? = some (.map es c)) : (getObj b).run Pg w = .ok (.map es c) w := by
  simp [getObj, Sem.run, h]
theorem ok_lookup (r : RH ρ H.get H.nx w) (t : RT ρ nt T tm) {ty : TypeId} {x k : Operand} {ok : Bool} (ho : o.op = .lookup ty x k ok) (h : opLookup ty ok H (ev T x) (ev T k) = some res) :
    OpOk ρ H w ((execOp (evm tm) o).run Pg w) res := by
  unfold opLookup at h
  split at h
  · rename_i kt e ed
    have ed : Pg.underlying ty = some (.map kt e) := ed
    split at h
    · rename_i hk
      obtain ⟨kx, ek, hkv⟩ := keyOk_some hk
      have hkr := ev_rel r.glob t ek
      rw [ek] at h
      -- the entries
      have key : ∀ l, mapOf H (ev T x) = some l → ∃ es : Array MapEntry, REs ρ l es.toList ∧ (Instr.lookup ty (evm tm x) (evm tm k) ok).run Pg w = (lookRest kt e (evm tm k) ok es).run Pg w := by
        intro l hl
        unfold mapOf at hl
        split at hl
        · rename_i ex
          injection hl with hl; subst hl
          have hx : evm tm x = .map none := ev_rel r.glob t ex
          exact ⟨#[], rfl, by rw [hx]; simp [Instr.lookup, lookRest, run_underlying ed]; congr 1⟩
        · rename_i y ex
          split at hl
          · rename_i es c eg
            injection hl with hl; subst hl
            obtain ⟨b, n, hb, hx⟩ := ev_rel r.glob t ex
            obtain ⟨b', n', e1, es', e2, e3⟩ := r.obj y _ eg rfl
            rw [hb] at e1
            injection e1 with e1; injection e1 with e1 _; subst e1
            exact ⟨es', e3, by rw [hx]; simp [Instr.lookup, lookRest, run_underlying ed, run_getMap e2]; congr 1⟩
          · cases hl
        · cases hl
      cases em : mapOf H (ev T x) with
      | none => rw [em] at h; simp [findIn, found] at h
      | some l =>
        rw [em] at h
        obtain ⟨es, hes, rm⟩ := key l em
        have h : found (zeroV e) ok (findE kt kx l 0) = some res := h
        cases ef : findE kt kx l 0 with
        | none => rw [ef] at h; cases h
        | some q =>
          rw [ef] at h
          obtain ⟨q', rq, hq⟩ := findKey_ok (w := w) hkr hkv ef hes
          have ck := checkKey_ok (w := w) hkv hkr es.isEmpty 9998
          have run : ∀ v, (lookVal e ok q').run Pg w = .ok v w → (execOp (evm tm) o).run Pg w = .ok (.value v) w := by
            intro v hm
            simp only [execOp, ho, Sem.run_bind, rm, lookRest, ck, Result.andThen_ok, rq, hm, Sem.run_pure]
          cases q with
          | none =>
            have hq : q' = none := hq
            subst hq
            unfold found at h
            cases ez : zeroV e with
            | none => rw [ez] at h; cases ok <;> cases h
            | some z =>
              rw [ez] at h
              obtain ⟨i, zv, e1, e2, e3⟩ := zeroV_some ez
              have hz := ofVal_rel ρ e3
              have r1 := run (if ok = true then .tuple #[zv, .bool false] else zv) (by simp [lookVal, zeroValue, typeInfo, e1, e2])
              cases ok with
              | true => injection h with h; subst h; exact .pure r r1 ⟨_, rfl, .cons hz (.one rfl)⟩
              | false => injection h with h; subst h; exact .pure r r1 hz
          | some q =>
            obtain ⟨i, v⟩ := q
            obtain ⟨v', rfl, hv⟩ := hq
            have r1 := run (if ok = true then .tuple #[v', .bool true] else v') (by simp [lookVal])
            unfold found at h
            cases ok with
            | true => injection h with h; subst h; exact .pure r r1 ⟨_, rfl, .cons hv (.one rfl)⟩
            | false => injection h with h; subst h; exact .pure r r1 hv
    · cases h
  · cases h
end
end
end Go.Proofs.YtmikbfdpenggjaaGreatDoor.Cv
