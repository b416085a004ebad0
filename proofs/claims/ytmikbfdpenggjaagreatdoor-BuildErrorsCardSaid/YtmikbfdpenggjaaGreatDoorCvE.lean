/- Operations on maps, iterators, rows that grow, and calls agree with the model. Conditions: those stated in each theorem. -/
import Derived.Test.YtmikbfdpenggjaaGreatDoorCvD
import Derived.Laws.RangeString
import Derived.Lib.Overlaps
namespace Go.Proofs.YtmikbfdpenggjaaGreatDoor.Cv
open Go
noncomputable section
section
variable {ρ : Rho} {H : Hp} {w : World} {nt : Nat} {T : Tr V} {tm : Array Value} {o : Oper} {res : R}
theorem REs.set {k v : V} {vk vv : Value} (hk : RV ρ k vk) (hv : RV ρ v vv) : ∀ {l : List (V × V × Nat)} {es : List MapEntry} (i : Nat), REs ρ l es → REs ρ (setE k v l i) (es.modify i fun e => { e with key := vk, val := vv })
  | [], _, i, e => by cases e; cases i <;> rfl
  | (_, _, _) :: _, _, 0, ⟨e, es', a, _, _, d, f⟩ => by subst a; exact ⟨_, es', rfl, hk, hv, d, f⟩
  | (_, _, _) :: _, _, i + 1, ⟨e, es', a, b, c, d, f⟩ => by subst a; exact ⟨e, _, rfl, b, c, d, REs.set hk hv i f⟩
theorem REs.erase : ∀ {l : List (V × V × Nat)} {es : List MapEntry} (i : Nat), REs ρ l es → REs ρ (eraseE l i) (es.eraseIdx i)
  | [], _, i, e => by cases e; cases i <;> rfl
  | (_, _, _) :: _, _, 0, ⟨e, es', a, _, _, d, f⟩ => by subst a; exact f
  | (_, _, _) :: _, _, i + 1, ⟨e, es', a, b, c, d, f⟩ => by subst a; exact ⟨e, _, rfl, b, c, d, REs.erase i f⟩
theorem REs.push {k v : V} {c : Nat} {vk vv : Value} (hk : RV ρ k vk) (hv : RV ρ v vv) : ∀ {l : List (V × V × Nat)} {es : List MapEntry}, REs ρ l es → REs ρ (l ++ [(k, v, c)]) (es ++ [{ key := vk, val := vv, born := c }])
  | [], _, e => by cases e; exact ⟨_, [], rfl, hk, hv, rfl, rfl⟩
  | (_, _, _) :: _, _, ⟨e, es', a, b, c, d, f⟩ => by subst a; exact ⟨e, _, rfl, b, c, d, REs.push hk hv f⟩
theorem REs.get : ∀ {l : List (V × V × Nat)} {es : List MapEntry}, REs ρ l es → ∀ {i : Nat} {x : V × V × Nat}, l[i]? = some x → ∃ e, es[i]? = some e ∧ RV ρ x.1 e.key ∧ RV ρ x.2.1 e.val ∧ e.born = x.2.2
  | [], _, _, i, x, h => by simp at h
  | (_, _, _) :: _, _, ⟨e, es', a, b, c, d, f⟩, 0, x, h => by subst a; simp at h; subst h; exact ⟨e, rfl, b, c, d⟩
  | (_, _, _) :: _, _, ⟨e, es', a, b, c, d, f⟩, i + 1, x, h => by subst a; simp at h; obtain ⟨e', h1, h2⟩ := REs.get f h; exact ⟨e', by simpa using h1, h2⟩
/-- equal keys have the same bits -/
theorem bits_simple {d : Option TypeDesc} {x y : V} {vx vy : Value} (h : eqS1 d x y = some true) (hx : RV ρ x vx) (hy : RV ρ y vy) (n : Nat) : Instr.sameBits n vx vy = true := by
  unfold eqS1 at h
  split at h
  · unfold eqIn at h
    split at h
    · split at h
      · rename_i hk
        have hk := eqK_eq hk
        subst hk
        injection h with h
        rw [eqI_eq] at h
        have h := of_decide_eq_true h
        subst h
        have hx : vx = _ := hx
        have hy : vy = _ := hy
        rw [hx, hy]
        cases n <;> simp [Instr.sameBits]
      · cases h
    · cases h
  · unfold eqSt at h
    split at h
    · injection h with h
      rw [eqS_eq] at h
      have h := of_decide_eq_true h
      subst h
      obtain ⟨s, rfl, hs⟩ := hx
      obtain ⟨u, rfl, hu⟩ := hy
      have : s.data.toList = u.data.toList := byteL_inj (by rw [hs, hu])
      have e : s = u := by
        cases s; cases u
        congr 1
        exact Array.toList_inj.1 this
      subst e
      have hb : (s == s) = true := by rw [beq_toListBytes]; simp
      cases n <;> simp [Instr.sameBits, hb]
    · cases h
  · unfold eqBo at h
    split at h
    · injection h with h
      have hx : vx = _ := hx
      have hy : vy = _ := hy
      rw [hx, hy]
      cases n <;> simp [Instr.sameBits] <;> simpa using h
    · cases h
  · cases h
theorem bits_fields (n : Nat) : ∀ (fs : List Field) (a c : List V) (xs ys : List Value), eqFs fs a c = some true → RVs ρ a xs → RVs ρ c ys → xs.length = ys.length ∧ (xs.zip ys).all (fun p => Instr.sameBits n p.1 p.2) = true
  | [], a, c, xs, ys, h, hx, hy => by
    cases a <;> cases c <;> simp [eqFs] at h
    cases hx; cases hy; simp
  | f :: fs, a, c, xs, ys, h, hx, hy => by
    cases a with
    | nil => simp [eqFs] at h
    | cons x a =>
      cases c with
      | nil => simp [eqFs] at h
      | cons y c =>
        obtain ⟨vx, xs', rfl, h1, h2⟩ := hx
        obtain ⟨vy, ys', rfl, h3, h4⟩ := hy
        simp only [eqFs] at h
        split at h
        · rename_i e
          obtain ⟨i1, i2⟩ := bits_fields n fs a c xs' ys' h h2 h4
          refine ⟨by simp [i1], ?_⟩
          simp only [List.zip_cons_cons, List.all_cons, bits_simple e h1 h3 n, Bool.true_and]
          exact i2
        · cases h
        · cases h
theorem bits_elems (n : Nat) {d : Option TypeDesc} : ∀ (m : Nat) (a c : List V) (xs ys : List Value), eqEs d m a c = some true → RVs ρ a xs → RVs ρ c ys → xs.length = ys.length ∧ (xs.zip ys).all (fun p => Instr.sameBits n p.1 p.2) = true
  | 0, a, c, xs, ys, h, hx, hy => by
    cases a <;> cases c <;> simp [eqEs] at h
    cases hx; cases hy; simp
  | m + 1, a, c, xs, ys, h, hx, hy => by
    cases a with
    | nil => simp [eqEs] at h
    | cons x a =>
      cases c with
      | nil => simp [eqEs] at h
      | cons y c =>
        obtain ⟨vx, xs', rfl, h1, h2⟩ := hx
        obtain ⟨vy, ys', rfl, h3, h4⟩ := hy
        simp only [eqEs] at h
        split at h
        · rename_i e
          obtain ⟨i1, i2⟩ := bits_elems n m a c xs' ys' h h2 h4
          refine ⟨by simp [i1], ?_⟩
          simp only [List.zip_cons_cons, List.all_cons, bits_simple e h1 h3 n, Bool.true_and]
          exact i2
        · cases h
        · cases h
theorem bits_agg {n : Nat} {xs ys : Array Value} (h : xs.toList.length = ys.toList.length ∧ (xs.toList.zip ys.toList).all (fun p => Instr.sameBits n p.1 p.2) = true) : Instr.sameBits (n + 1) (.agg xs) (.agg ys) = true := by
  have h1 : xs.size = ys.size := by simpa using h.1
  simp only [Instr.sameBits, h1, beq_self_eq_true, Bool.true_and]
  exact h.2
theorem bits_key {t : TypeId} {x y : V} {vx vy : Value} (h : eqKey t x y = some true) (hx : RV ρ x vx) (hy : RV ρ y vy) (n : Nat) : Instr.sameBits (n + 1) vx vy = true := by
  unfold eqKey at h
  split at h
  · unfold eqSr at h
    split at h
    · unfold eqAg at h
      split at h
      · obtain ⟨xs, rfl, hx⟩ := hx
        obtain ⟨ys, rfl, hy⟩ := hy
        exact bits_agg (bits_fields n _ _ _ _ _ h hx hy)
      · cases h
    · cases h
  · unfold eqAr at h
    split at h
    · split at h
      · obtain ⟨xs, rfl, hx⟩ := hx
        obtain ⟨ys, rfl, hy⟩ := hy
        exact bits_agg (bits_elems n _ _ _ _ _ h hx hy)
      · cases h
    · cases h
  · exact bits_simple h hx hy _
theorem bits_symm_key {t : TypeId} {x y : V} (h : eqKey t x y = some true) : eqKey t y x = some true := by
  have s1 : ∀ {d : Option TypeDesc} {x y : V}, eqS1 d x y = some true → eqS1 d y x = some true := by
    intro d x y h
    unfold eqS1 at h ⊢
    split at h
    · unfold eqIn at h ⊢
      split at h
      · split at h
        · rename_i hk
          have hk := eqK_eq hk
          subst hk
          injection h with h
          rw [eqI_eq] at h
          have h := of_decide_eq_true h
          subst h
          simp [eqK_refl, eqI_eq]
        · cases h
      · cases h
    · unfold eqSt at h ⊢
      split at h
      · injection h with h
        rw [eqS_eq] at h
        have h := of_decide_eq_true h
        subst h
        simp [eqS_eq]
      · cases h
    · unfold eqBo at h ⊢
      split at h
      · injection h with h
        simp at h
        subst h
        simp
      · cases h
    · cases h
  have s2 : ∀ (fs : List Field) (a c : List V), eqFs fs a c = some true → eqFs fs c a = some true := by
    intro fs
    induction fs with
    | nil => intro a c h; cases a <;> cases c <;> simp_all [eqFs]
    | cons f fs ih =>
      intro a c h
      cases a with
      | nil => simp [eqFs] at h
      | cons x a =>
        cases c with
        | nil => simp [eqFs] at h
        | cons y c =>
          simp only [eqFs] at h ⊢
          split at h
          · rename_i e; rw [s1 e]; exact ih _ _ h
          · cases h
          · cases h
  have s3 : ∀ (d : Option TypeDesc) (m : Nat) (a c : List V), eqEs d m a c = some true → eqEs d m c a = some true := by
    intro d m
    induction m with
    | zero => intro a c h; cases a <;> cases c <;> simp_all [eqEs]
    | succ m ih =>
      intro a c h
      cases a with
      | nil => simp [eqEs] at h
      | cons x a =>
        cases c with
        | nil => simp [eqEs] at h
        | cons y c =>
          simp only [eqEs] at h ⊢
          split at h
          · rename_i e; rw [s1 e]; exact ih _ _ h
          · cases h
          · cases h
  unfold eqKey at h ⊢
  split at h
  · unfold eqSr at h ⊢
    split at h
    · rename_i hf
      unfold eqAg at h ⊢
      split at h
      · exact s2 _ _ _ h
      · cases h
    · cases h
  · unfold eqAr at h ⊢
    split at h
    · split at h
      · exact s3 _ _ _ _ h
      · cases h
    · cases h
  · exact s1 h
theorem findE_at {kt : TypeId} {k : V} : ∀ (l : List (V × V × Nat)) (i j : Nat) (v : V), findE kt k l i = some (some (j, v)) → ∃ k' c, i ≤ j ∧ l[j - i]? = some (k', v, c) ∧ eqKey kt k k' = some true
  | [], i, j, v, h => by injection h with h; cases h
  | (k', v', c) :: l, i, j, v, h => by
    unfold findE at h
    split at h
    · rename_i e
      injection h with h; injection h with h; injection h with h1 h2
      subst h1 h2
      exact ⟨k', c, Nat.le_refl _, by simp, e⟩
    · obtain ⟨k'', c', h1, h2, h3⟩ := findE_at l (i + 1) j v h
      refine ⟨k'', c', by omega, ?_, h3⟩
      rw [show j - i = (j - (i + 1)) + 1 by omega]
      simpa using h2
    · cases h
theorem ok_update (r : RH ρ H.get H.nx w) (t : RT ρ nt T tm) {ty : TypeId} {m k x : Operand} (ho : o.op = .mapUpdate ty m k x) (h : opUpdate ty H (ev T m) (ev T k) (ev T x) = some res) :
    OpOk ρ H w ((execOp (evm tm) o).run Pg w) res := by
  unfold opUpdate at h
  split at h
  · rename_i kt e ed
    have ed : Pg.underlying ty = some (.map kt e) := ed
    split at h
    · rename_i y kx vx hk em ek ex
      rw [ek] at hk
      obtain ⟨_, e1, hkv⟩ := keyOk_some hk
      injection e1 with e1; subst e1
      have hkr := ev_rel r.glob t ek
      have hxr := ev_rel r.glob t ex
      obtain ⟨b, n, hb, hm⟩ := ev_rel r.glob t em
      split at h
      · rename_i es c eg
        obtain ⟨b', n', e1, es', e2, e3⟩ := r.obj y _ eg rfl
        rw [hb] at e1
        injection e1 with e1; injection e1 with e1 e1'; subst e1 e1'
        have ck := checkKey_ok (w := w) hkv hkr false 9998
        cases ef : findE kt kx es 0 with
        | none => rw [ef] at h; cases h
        | some q =>
          rw [ef] at h
          obtain ⟨q', rq, hq⟩ := findKey_ok (w := w) hkr hkv ef e3
          cases q with
          | none =>
            have hq : q' = none := hq
            subst hq
            injection h with h; subst h
            have up := upd_set (.map (es'.push { key := evm tm k, val := evm tm x, born := c }) (c + 1)) e2
            have h1 := r.upd (o' := .m (es ++ [(kx, vx, c)]) (c + 1)) eg rfl hb up (.inl rfl) ⟨_, rfl, by simpa using REs.push hkr hxr e3⟩
            refine ⟨ρ, .skip, undef, { w with heap := w.heap.setIfInBounds b (.map (es'.push { key := evm tm k, val := evm tm x, born := c }) (c + 1)) }, ?_, .inr ⟨rfl, rfl⟩, ⟨#[], rfl, rfl⟩, ?_⟩
            · simp only [execOp, ho, hm, Instr.mapUpdate, Sem.run_bind, run_underlying ed, Result.andThen_ok, run_getMap e2, ck, rq]
              simp [setObj, Sem.run, e2]
            · rw [get_set_fun, Hp.nx_set]; exact h1
          | some q =>
            obtain ⟨i, v⟩ := q
            obtain ⟨v', rfl, hv⟩ := hq
            injection h with h; subst h
            obtain ⟨k', c', _, hi, he⟩ := findE_at es 0 i v ef
            obtain ⟨ent, g1, g2, g3, g4⟩ := e3.get (by simpa using hi)
            have hbits := bits_key (bits_symm_key he) g2 hkr 9999
            have up := upd_set (.map (es'.modify i fun e => { e with key := evm tm k, val := evm tm x }) c) e2
            have h1 := r.upd (o' := .m (setE kx vx es i) c) eg rfl hb up (.inl rfl) ⟨_, rfl, by simpa using REs.set hkr hxr i e3⟩
            refine ⟨ρ, .skip, undef, { w with heap := w.heap.setIfInBounds b (.map (es'.modify i fun e => { e with key := evm tm k, val := evm tm x }) c) }, ?_, .inr ⟨rfl, rfl⟩, ⟨#[], rfl, rfl⟩, ?_⟩
            · simp only [execOp, ho, hm, Instr.mapUpdate, Sem.run_bind, run_underlying ed, Result.andThen_ok, run_getMap e2, ck, rq]
              rw [Array.getElem?_toList] at g1
              simp only [g1, Option.map_some, Option.getD_some, Instr.keyThatStays, hbits, if_true, Sem.run_pure, Result.andThen_ok]
              simp [setObj, Sem.run, e2]
            · rw [get_set_fun, Hp.nx_set]; exact h1
      · cases h
    · cases h
  · cases h
theorem ok_makeMap (r : RH ρ H.get H.nx w) {ty : TypeId} {q : Option Operand} (ho : o.op = .makeMap ty q) (h : opMakeMap q H = some res) :
    OpOk ρ H w ((execOp (evm tm) o).run Pg w) res := by
  unfold opMakeMap at h
  split at h
  · injection h with h; subst h
    refine .new (x := .map #[] 0) (n := 0) r ⟨#[], rfl, rfl⟩ (v' := .map (some w.heap.size)) (w' := { w with heap := w.heap.push (.map #[] 0) }) ?_ rfl ⟨w.heap.size, 0, by simp [updR], rfl⟩
    simp [execOp, ho, Instr.makeMap]
  · cases h
theorem ok_delete (r : RH ρ H.get H.nx w) {ty rt : TypeId} {ts : List TypeId} {m k : V} {vm vk : Value} (hm : RV ρ m vm) (hkr : RV ρ k vk) (h : opDelete ty H m k = some res) :
    OpOk ρ H w (((Builtin.delete_ ((ty :: ts).toArray) rt #[vm, vk]).run Pg w).andThen fun v w' => .ok (.value v) w') res := by
  unfold opDelete at h
  split at h
  · rename_i kt e ed
    have ed : Pg.underlying ty = some (.map kt e) := ed
    split at h
    · rename_i y hkv
      obtain ⟨b, n, hb, rfl⟩ := hm
      split at h
      · rename_i es c eg
        obtain ⟨b', n', e1, es', e2, e3⟩ := r.obj y _ eg rfl
        rw [hb] at e1
        injection e1 with e1; injection e1 with e1 e1'; subst e1 e1'
        have ck := checkKey_ok (w := w) hkv hkr es'.isEmpty 9998
        cases ef : findE kt k es 0 with
        | none => rw [ef] at h; cases h
        | some q =>
          rw [ef] at h
          obtain ⟨q', rq, hq⟩ := findKey_ok (w := w) hkr hkv ef e3
          cases q with
          | none =>
            have hq : q' = none := hq
            subst hq
            injection h with h; subst h
            have up := upd_set (.map es' c) e2
            have h1 := r.upd (o' := .m es c) eg rfl hb up (.inl rfl) ⟨_, rfl, e3⟩
            have hu : updG H.get y (.m es c) = H.get := by funext z; unfold updG; split <;> simp_all
            rw [hu] at h1
            refine ⟨.value (.tuple #[]), .tuple #[], { w with heap := w.heap.setIfInBounds b (.map es' c) }, ?_, .inl rfl, ⟨#[], rfl, rfl⟩, h1⟩
            simp only [Builtin.delete_, List.getElem?_toArray, List.getElem?_cons_zero, List.getElem?_cons_succ, Sem.run_bind, run_underlying ed, Result.andThen_ok, run_getMap e2, ck, rq]
            simp [setObj, Sem.run, e2]
          | some q =>
            obtain ⟨i, v⟩ := q
            obtain ⟨v', rfl, hv⟩ := hq
            injection h with h; subst h
            have up := upd_set (.map (es'.eraseIdxIfInBounds i) c) e2
            have h1 := r.upd (o' := .m (eraseE es i) c) eg rfl hb up (.inl rfl) ⟨_, rfl, by rw [Array.toList_eraseIdxIfInBounds]; exact REs.erase i e3⟩
            refine ⟨ρ, .value (.tuple #[]), .tuple #[], { w with heap := w.heap.setIfInBounds b (.map (es'.eraseIdxIfInBounds i) c) }, ?_, .inl rfl, ⟨#[], rfl, rfl⟩, ?_⟩
            · simp only [Builtin.delete_, List.getElem?_toArray, List.getElem?_cons_zero, List.getElem?_cons_succ, Sem.run_bind, run_underlying ed, Result.andThen_ok, run_getMap e2, ck, rq]
              simp [setObj, Sem.run, e2]
            · rw [get_set_fun, Hp.nx_set]; exact h1
      · cases h
    · cases h
  · cases h
/-! iterators -/
theorem ok_range (r : RH ρ H.get H.nx w) (t : RT ρ nt T tm) {ty : TypeId} {x : Operand} (ho : o.op = .range ty x) (h : opRange ty H (ev T x) = some res) :
    OpOk ρ H w ((execOp (evm tm) o).run Pg w) res := by
  unfold opRange at h
  split at h
  · rename_i l ed ex
    have ed : Pg.underlying ty = some .string := ed
    obtain ⟨s, hx, hs⟩ := ev_rel r.glob t ex
    injection h with h; subst h
    refine .new (x := .stringIter s 0) (n := 0) r ⟨s, rfl, hs⟩ (v' := .pointer (some ⟨w.heap.size, 0, none⟩)) (w' := { w with heap := w.heap.push (.stringIter s 0) }) ?_ rfl (pv ..)
    simp [execOp, ho, hx, Instr.range, run_underlying ed]
  · rename_i a b ed ex
    have ed : Pg.underlying ty = some (.map a b) := ed
    have hx : evm tm x = .map none := ev_rel r.glob t ex
    injection h with h; subst h
    refine .new (x := .mapIter none 0 #[] 0) (n := 0) r ⟨none, rfl, rfl⟩ (v' := .pointer (some ⟨w.heap.size, 0, none⟩)) (w' := { w with heap := w.heap.push (.mapIter none 0 #[] 0) }) ?_ rfl (pv ..)
    simp [execOp, ho, hx, Instr.range, run_underlying ed]
  · rename_i a b y ed ex
    have ed : Pg.underlying ty = some (.map a b) := ed
    obtain ⟨bb, n, hb, hx⟩ := ev_rel r.glob t ex
    split at h
    · rename_i es c eg
      obtain ⟨b', n', e1, es', e2, e3⟩ := r.obj y _ eg rfl
      rw [hb] at e1
      injection e1 with e1; injection e1 with e1 e1'; subst e1 e1'
      injection h with h; subst h
      refine .new (x := .mapIter (some bb) c #[] c) (n := 0) r ⟨some bb, rfl, bb, n, ext_updR (r.fresh _ (Nat.le_refl _)) _ _ hb, rfl⟩ (v' := .pointer (some ⟨w.heap.size, 0, none⟩)) (w' := { w with heap := w.heap.push (.mapIter (some bb) c #[] c) }) ?_ rfl (pv ..)
      simp [execOp, ho, hx, Instr.range, run_underlying ed, run_getMap e2]
    · cases h
  · cases h
theorem run_getOther {b : Nat} {ob : Obj} (h : w.heap[b]? = some ob) (hc : ∀ cs e f, ob ≠ .cells cs e f) : (getObj b).run Pg w = .ok ob w := by
  cases ob <;> first | (exact absurd rfl (hc _ _ _)) | simp [getObj, Sem.run, h]
theorem run_setOther {b : Nat} {ob ob' : Obj} (h : w.heap[b]? = some ob) (hc : ∀ cs e f, ob ≠ .cells cs e f) : (setObj b ob').run Pg w = .ok () { w with heap := w.heap.setIfInBounds b ob' } := by
  cases ob <;> first | (exact absurd rfl (hc _ _ _)) | simp [setObj, Sem.run, h]
theorem nthS_eq : ∀ (l : List Nat) (n : Nat), nthS l n = l[n]?
  | [], _ => by simp [nthS]
  | _ :: _, 0 => by simp [nthS]
  | _ :: r, n + 1 => by simp [nthS, nthS_eq r n]
theorem hasN_eq (n : Nat) : ∀ (l : List Nat), hasN n l = l.contains n
  | [] => by simp [hasN]
  | x :: r => by
    simp only [hasN]
    split
    · rename_i h; have h := of_beq h; simp [h]
    · rename_i h; have h := of_beq_f h
      rw [hasN_eq n r, List.contains_cons]
      have : (n == x) = false := by simpa using Ne.symm h
      simp [this]
theorem leftE_ok (seen : List Nat) : ∀ {l : List (V × V × Nat)} {es : List MapEntry}, REs ρ l es → REs ρ (leftE seen l) (es.filter fun e => !seen.contains e.born)
  | [], _, e => by cases e; rfl
  | (k, v, c) :: l, _, ⟨e, es', a, b, cc, d, f⟩ => by
    subst a
    simp only [leftE]
    split
    · rename_i h
      rw [hasN_eq] at h
      rw [List.filter_cons, if_neg (by rw [d, h]; simp)]
      exact leftE_ok seen f
    · rename_i h
      rw [hasN_eq] at h
      rw [List.filter_cons, if_pos (by rw [d, h]; rfl)]
      exact ⟨e, _, rfl, b, cc, d, leftE_ok seen f⟩
theorem allNew_ok (last : Nat) : ∀ {l : List (V × V × Nat)} {es : List MapEntry}, REs ρ l es → allNew last l = es.all (fun e => decide (e.born ≥ last))
  | [], _, e => by cases e; rfl
  | (k, v, c) :: l, _, ⟨e, es', a, b, cc, d, f⟩ => by
    subst a
    simp only [allNew]
    split
    · rename_i h; have h := of_ble h
      rw [List.all_cons, allNew_ok last f, d]; simp [h]
    · rename_i h; have h := of_ble_f h
      rw [List.all_cons, d]; simp; omega
end
end
end Go.Proofs.YtmikbfdpenggjaaGreatDoor.Cv
namespace Go.Proofs.YtmikbfdpenggjaaGreatDoor.Cv
open Go
noncomputable section
section
variable {ρ : Rho} {H : Hp} {w : World} {nt : Nat} {T : Tr V} {tm : Array Value} {o : Oper} {res : R}
theorem RH.other (r : RH ρ H.get H.nx w) {x : Nat} {ob : O} (h : H.get x = some ob) (hd : ob.isDead = false) : ∃ b n, ρ x = some (b, n) ∧ RO ρ n ob w.heap[b]? := r.obj x ob h hd
theorem ok_next (r : RH ρ H.get H.nx w) (t : RT ρ nt T tm) {x : Operand} {str : Bool} (ho : o.op = .next x str) (h : opNext str H (ev T x) = some res) :
    OpOk ρ H w ((execOp (evm tm) o).run Pg w) res := by
  unfold opNext at h
  split at h
  · rename_i y ex
    obtain ⟨b, n, hb, hx⟩ := ev_rel r.glob t ex
    split at h
    · rename_i l pos eg
      obtain ⟨b', n', e1, s, e2, e3⟩ := r.obj y _ eg rfl
      rw [hb] at e1
      injection e1 with e1; injection e1 with e1 e1'; subst e1 e1'
      have hl : l.length = s.size := by rw [← e3, byteL_eq]; simp
      rw [nthS_eq] at h
      cases en : l[pos]? with
      | none =>
        rw [en] at h
        injection h with h; subst h
        have hn : ¬ pos < s.size := by
          rw [← hl]; intro hh; rw [List.getElem?_eq_getElem hh] at en; cases en
        refine .pure r (v := .tuple #[.bool false]) ?_ ⟨_, rfl, .one rfl⟩
        simp [execOp, ho, hx, Instr.next, run_getOther e2 (by simp), hn]
      | some c =>
        rw [en] at h
        unfold nextS at h
        simp only at h
        split at h
        · rename_i hc
          have hc := of_blt hc
          injection h with h; subst h
          have hlt : pos < s.size := by rw [← hl]; exact (List.getElem?_eq_some_iff.1 en).1
          have hcc : (s[pos]'hlt).toNat = c := by
            rw [← e3, byteL_eq] at en
            simp at en
            obtain ⟨u, hu, rfl⟩ := en
            have := (Array.getElem?_eq_some_iff.1 hu).2
            rw [← this]; rfl
          have hd := decode_ascii s pos hlt (by rw [hcc]; exact hc)
          have up := upd_set (.stringIter s (pos + 1)) e2
          have h1 := r.upd (o' := .si l (pos + 1)) eg rfl hb up (.inl rfl) ⟨s, rfl, e3⟩
          refine ⟨ρ, _, .tuple #[.bool true, .int .i64 pos, .int .i32 c], { w with heap := w.heap.setIfInBounds b (.stringIter s (pos + 1)) }, ?_, .inl rfl, ⟨_, rfl, .cons rfl (.cons rfl (.one rfl))⟩, ?_⟩
          · simp [execOp, ho, hx, Instr.next, run_getOther e2 (by simp), hlt, hd, run_setOther e2 (by simp), hcc]
            rfl
          · rw [get_set_fun, Hp.nx_set]; exact h1
        · cases h
    · rename_i since seen last eg
      obtain ⟨b', n', e1, m', e2, e3⟩ := r.obj y _ eg rfl
      have e3 : m' = none := e3
      subst e3
      rw [hb] at e1
      injection e1 with e1; injection e1 with e1 e1'; subst e1 e1'
      injection h with h; subst h
      refine .pure r (v := .tuple #[.bool false]) ?_ ⟨_, rfl, .one rfl⟩
      simp [execOp, ho, hx, Instr.next, run_getOther e2 (by simp)]
    · rename_i m since seen last eg
      obtain ⟨b', n', e1, m', e2, bm, nm, e3, rfl⟩ := r.obj y _ eg rfl
      rw [hb] at e1
      injection e1 with e1; injection e1 with e1 e1'; subst e1 e1'
      cases eg2 : H.get m with
      | none => rw [eg2] at h; cases h
      | some om =>
        rw [eg2] at h
        cases om <;> first | (cases h; done) | skip
        rename_i es c
        obtain ⟨b', n', e1, es', e4, e5⟩ := r.obj m _ eg2 rfl
        rw [e3] at e1
        injection e1 with e1; injection e1 with e1 e1'; subst e1 e1'
        have hleft := leftE_ok (ρ := ρ) seen e5
        have hfilter : ∀ p : MapEntry → Bool, (es'.filter p).toList = es'.toList.filter p := fun p => Array.toList_filter
        have guardOk : (!seen.toArray.isEmpty && !es'.isEmpty && es'.all fun e => decide (e.born ≥ last)) = false ∧ nextE H y m since seen c (leftE seen es) = some res := by
          have ha := allNew_ok (ρ := ρ) last e5
          unfold nextM at h
          simp only at h
          cases seen with
          | nil => exact ⟨by simp, h⟩
          | cons s0 seen =>
            cases es with
            | nil =>
              have : es' = #[] := by have := e5; simp [REs] at this; exact this
              subst this
              exact ⟨by simp, h⟩
            | cons e0 es =>
              cases hal : allNew last (e0 :: es) with
              | true => rw [hal] at h; cases h
              | false =>
                rw [hal] at h ha
                refine ⟨?_, h⟩
                have : (es'.all fun e => decide (e.born ≥ last)) = false := by rw [← Array.all_toList]; exact ha.symm
                rw [this]; simp
        obtain ⟨hg, h⟩ := guardOk
        unfold nextE at h
        split at h
        · rename_i el
          rw [el] at hleft
          have hl0 : es'.toList.filter (fun e => !seen.contains e.born) = [] := hleft
          injection h with h; subst h
          have hl0 : es'.filter (fun e => !seen.toArray.contains e.born) = #[] := by
            apply Array.toList_inj.1; rw [hfilter]; simpa using hl0
          refine .pure r (v := .tuple #[.bool false]) ?_ ⟨_, rfl, .one rfl⟩
          simp only [execOp, ho, hx, Instr.next, Sem.run_bind, run_getOther e2 (by simp), Result.andThen_ok, run_getMap e4, hg, Bool.false_eq_true, if_false, Sem.run_ite, Sem.run_pure, hl0]
          simp [Question.forced, choose, Sem.run]
        · rename_i k v bn el
          rw [el] at hleft
          obtain ⟨e, es2, e6, h1, h2, h3, h4⟩ := hleft
          have h4 : es2 = [] := h4
          subst h4
          split at h
          · rename_i hlt
            have hlt := of_blt hlt
            injection h with h; subst h
            have hl0 : es'.filter (fun e => !seen.toArray.contains e.born) = #[e] := by
              apply Array.toList_inj.1; rw [hfilter]; simpa using e6
            have up := upd_set (.mapIter (some bm) since (seen.toArray.push e.born) c) e2
            have h1' := r.upd (o' := .mi (some m) since (seen ++ [bn]) c) eg rfl hb up (.inl rfl) ⟨some bm, by rw [h3]; simp, bm, nm, e3, rfl⟩
            refine ⟨ρ, _, .tuple #[.bool true, e.key, e.val], { w with heap := w.heap.setIfInBounds b (.mapIter (some bm) since (seen.toArray.push e.born) c) }, ?_, .inl rfl, ⟨_, rfl, .cons rfl (.cons h1 (.one h2))⟩, ?_⟩
            · simp only [execOp, ho, hx, Instr.next, Sem.run_bind, run_getOther e2 (by simp), Result.andThen_ok, run_getMap e4, hg, Bool.false_eq_true, if_false, Sem.run_ite, Sem.run_pure, hl0]
              have hb1 : e.born < since := by rw [h3]; exact hlt
              have hb2 : ¬ e.born ≥ since := by omega
              have hb3 : ¬ since ≤ e.born := by omega
              simp [Question.forced, choose, Sem.run, hb1, hb3, run_setOther e2]
            · rw [get_set_fun, Hp.nx_set]; exact h1'
          · cases h
        · cases h
    · cases h
  · cases h
theorem lastN_eq : ∀ (l : List Nat), lastN l = l.getLast?
  | [] => rfl
  | [_] => rfl
  | _ :: y :: r => by simp [lastN, lastN_eq (y :: r)]
theorem bornE_ok (n : Nat) : ∀ {l : List (V × V × Nat)} {es : List MapEntry}, REs ρ l es → bornE n l = some res → ∃ k v e, res = .v (.tup [k, v]) ∧ es.find? (fun e => e.born == n) = some e ∧ RV ρ k e.key ∧ RV ρ v e.val
  | [], _, _, h => by cases h
  | (k, v, c) :: l, _, ⟨e, es', a, b, cc, d, f⟩, h => by
    subst a
    simp only [bornE] at h
    split at h
    · rename_i hc
      have hc := of_beq hc
      injection h with h; subst h
      exact ⟨k, v, e, rfl, by simp [d, hc], b, cc⟩
    · rename_i hc
      have hc := of_beq_f hc
      obtain ⟨k', v', e', h1, h2, h3⟩ := bornE_ok n f h
      refine ⟨k', v', e', h1, ?_, h3⟩
      rw [List.find?_cons]
      have : (e.born == n) = false := by rw [d]; simpa using hc
      simp only [this]
      exact h2
theorem ok_entry (r : RH ρ H.get H.nx w) (t : RT ρ nt T tm) {x : Operand} (ho : o.op = .entry x) (h : opEntry H (ev T x) = some res) :
    OpOk ρ H w ((execOp (evm tm) o).run Pg w) res := by
  unfold opEntry at h
  split at h
  · rename_i y ex
    obtain ⟨b, n, hb, hx⟩ := ev_rel r.glob t ex
    split at h
    · rename_i m since seen stepped eg
      obtain ⟨b', n', e1, m', e2, bm, nm, e3, rfl⟩ := r.obj y _ eg rfl
      rw [hb] at e1
      injection e1 with e1; injection e1 with e1 e1'; subst e1 e1'
      split at h
      · rename_i st es
        rw [lastN_eq] at es
        unfold entryM at h
        split at h
        · rename_i en c eg2
          split at h
          · rename_i hc
            have hc := of_beq hc
            subst hc
            obtain ⟨b', n', e1, es', e4, e5⟩ := r.obj m _ eg2 rfl
            rw [e3] at e1
            injection e1 with e1; injection e1 with e1 e1'; subst e1 e1'
            obtain ⟨k, v, e, rfl, hf, h1, h2⟩ := bornE_ok st e5 h
            have hf : es'.find? (fun e => e.born == st) = some e := by rw [← Array.find?_toList]; exact hf
            have hbk : seen.toArray.back? = some st := by simpa using es
            refine .pure r (v := .tuple #[e.key, e.val]) ?_ ⟨_, rfl, .cons h1 (.one h2)⟩
            simp [execOp, ho, hx, Instr.entry, run_getOther e2 (by simp), hbk, run_getMap e4, hf]
          · cases h
        · cases h
      · cases h
    · cases h
  · cases h
/-! builtins -/
theorem ok_max {ts : Array TypeId} {rt : TypeId} {l : List V} {vs : List Value} (r : RH ρ H.get H.nx w) (hr : RVs ρ l vs) (h : opMax l = some res) :
    OpOk ρ H w (((Builtin.max_ ts rt vs.toArray).run Pg w).andThen fun v w' => .ok (.value v) w') res := by
  have mx : ∀ a c : Int, maxI a c = if c > a then c else a := by
    intro a c
    unfold maxI
    split
    · rename_i h; rw [ltI_eq] at h; have h := of_decide_eq_true h; rw [if_pos h]
    · rename_i h; rw [ltI_eq] at h; have h := of_decide_eq_false h; rw [if_neg h]
  unfold opMax at h
  split at h
  · rename_i k a k' c
    obtain ⟨v1, _, rfl, h1, h2⟩ := hr
    obtain ⟨v2, _, rfl, h3, h4⟩ := h2
    have h1 : v1 = _ := h1
    have h3 : v2 = _ := h3
    cases h4
    subst h1 h3
    injection h with h; subst h
    exact .pure r (v := .int k (if c > a then c else a)) (by simp [Builtin.max_, Builtin.max2]) (by rw [mx]; rfl)
  · rename_i k a k' c k2 d
    obtain ⟨v1, _, rfl, h1, h2⟩ := hr
    obtain ⟨v2, _, rfl, h3, h4⟩ := h2
    obtain ⟨v3, _, rfl, h5, h6⟩ := h4
    have h1 : v1 = _ := h1
    have h3 : v2 = _ := h3
    have h5 : v3 = _ := h5
    cases h6
    subst h1 h3 h5
    injection h with h; subst h
    exact .pure r (v := .int k (if d > (if c > a then c else a) then d else (if c > a then c else a))) (by simp [Builtin.max_, Builtin.max2]) (by rw [mx, mx]; rfl)
  · cases h
theorem ok_cap {ty e rt : TypeId} {ts : List TypeId} {x : V} {v : Value} (r : RH ρ H.get H.nx w) (ed : Pg.underlying ty = some (.slice e)) (hv : RV ρ x v) (h : opCap x = some res) :
    OpOk ρ H w (((Builtin.cap_ ((ty :: ts).toArray) rt #[v]).run Pg w).andThen fun v w' => .ok (.value v) w') res := by
  unfold opCap at h
  split at h
  · have hv : v = _ := hv
    subst hv
    injection h with h; subst h
    exact .pure r (v := goInt 0) (by simp [Builtin.cap_, underlying, ed]) rfl
  · obtain ⟨b, n, c, hb, rfl, hc1, hc2⟩ := hv
    subst hc2
    injection h with h; subst h
    exact .pure r (v := goInt c) (by simp [Builtin.cap_, underlying, ed]) rfl
  · cases h
end
end
end Go.Proofs.YtmikbfdpenggjaaGreatDoor.Cv
namespace Go.Proofs.YtmikbfdpenggjaaGreatDoor.Cv
open Go
noncomputable section
section
variable {ρ : Rho} {H : Hp} {w : World} {nt : Nat} {T : Tr V} {tm : Array Value} {o : Oper} {res : R}
theorem byteVs_eq : ∀ (l : List Nat), byteVs l = l.map fun c => V.i .u8 (.ofNat c)
  | [] => rfl
  | c :: r => by simp [byteVs, byteVs_eq r]
theorem src_len {x : V} {v : Value} {n : Nat} (hv : RV ρ x v) (h : lenS x = some n) : (Builtin.lenOf v).run Pg w = .ok n w := by
  unfold lenS at h
  split at h
  · obtain ⟨s, rfl, hs⟩ := hv
    injection h with h
    have : s.size = n := by rw [← h, ← hs, byteL_eq]; simp
    simp [Builtin.lenOf, this]
  · have hv : v = _ := hv
    injection h with h; subst hv h; simp [Builtin.lenOf]
  · obtain ⟨a, c, rfl⟩ := hv
    injection h with h; subst h; simp [Builtin.lenOf]
  · obtain ⟨b, m, c, _, rfl, _⟩ := hv
    injection h with h; subst h; simp [Builtin.lenOf]
  · cases h
/-- the cells that are appended or copied -/
theorem src_ok (r : RH ρ H.get H.nx w) {size n m : Nat} {x : V} {v : Value} {cs : List V} (hv : RV ρ x v) (hl : lenS x = some m) (hn : 0 < n) (hnm : n ≤ m) (h : srcCells size H n x = some cs) :
    ∃ us : List Value, RVs ρ cs us ∧ us.length = n * size ∧ ∀ w', w'.heap = w.heap → (Builtin.firstCells size n v).run Pg w' = .ok us.toArray w' := by
  unfold srcCells at h
  split at h
  · injection hl with hl; omega
  · injection hl with hl; omega
  · rename_i y off len cap esz
    obtain ⟨q, l, g1, g2, g3⟩ := subO_some h
    obtain ⟨b, m', c, e1, rfl, _⟩ := hv
    obtain ⟨b', n', cc, e4, fz, e5, e6, e7⟩ := r.cells g1 g2
    rw [e1] at e5
    injection e5 with e5; injection e5 with e5 _; subst e5
    obtain ⟨us, k1, k2, k3, k4⟩ := load_cells e6 e7 g3
    refine ⟨us, k2, k3, fun w' hw => ?_⟩
    have e6' : w'.heap[b]? = some (.cells cc e4 fz) := by rw [hw]; exact e6
    have := run_firstCells_some (P := Pg) w' size n ⟨b, off, none⟩ len c us k3 (fun j u hj => by
      have := k4 j u hj
      rw [add_eq] at this ⊢
      rw [cell_at e6] at this
      rw [cell_at e6']
      exact this)
    exact this
  · rename_i l
    split at h
    · rename_i h1
      have h1 := of_beq h1
      subst h1
      obtain ⟨s, rfl, hs⟩ := hv
      obtain ⟨rfl, hle⟩ := takeN_eq _ _ _ h
      have hsz : l.length = s.size := by rw [← hs, byteL_eq]; simp
      refine ⟨((s.extract 0 n).data.map fun b => Value.int .u8 b.toNat).toList, ?_, ?_, fun w' _ => by simp only [Builtin.firstCells, Sem.run_pure, Array.toArray_toList]⟩
      · rw [byteVs_eq, ← hs, byteL_eq]
        simp only [Array.toList_map, List.map_map]
        rw [← List.map_take]
        have : (s.extract 0 n).data.toList = s.data.toList.take n := by simp [ByteArray.data_extract]
        rw [this]
        generalize s.data.toList.take n = q
        induction q with
        | nil => rfl
        | cons a q ih => exact .cons rfl ih
      · rw [byteVs_eq] at hle
        simp at hle
        simp [ByteArray.data_extract]
        have : s.data.size = s.size := rfl
        omega
    · cases h
  · cases h
theorem notInt_some {t : TypeId} (h : notInt (und t) = true) : ∃ d, Pg.underlying t = some d ∧ ∀ k, d ≠ .int k := by
  unfold notInt at h
  split at h
  · cases h
  · rename_i d hd ed; exact ⟨d, ed, fun k e => hd k e⟩
  · cases h
theorem run_ap_fit {t tx rt elem : TypeId} {ts : List TypeId} {d : TypeDesc} {i : TypeInfo} (ht : Pg.underlying t = some (.slice elem)) (hx : Pg.underlying tx = some d) (hd : ∀ k, d ≠ .int k) (hi : Pg.info? elem = some i)
    {base : Option Addr} {len cap n : Nat} {x : Value} {us : List Value} {w' : World} (hl : (Builtin.lenOf x).run Pg w = .ok n w) (hf : (Builtin.firstCells i.size n x).run Pg w = .ok us.toArray w) (hfit : len + n ≤ cap)
    (hs : ∀ a, base = some a → (storeCells (a.add (len * i.size)) us).run Pg w = .ok () w') (hn : base = none → w' = w) :
    (Builtin.append_ ((t :: tx :: ts).toArray) rt #[.slice base len cap, x]).run Pg w = .ok (.slice base (len + n) cap) w' := by
  have hz : (match d with | .int _ => true | _ => false) = false := by
    cases d <;> first | rfl | (exact absurd rfl (hd _))
  simp only [Builtin.append_, List.getElem?_toArray, List.getElem?_cons_zero, List.getElem?_cons_succ, Sem.run_bind, run_underlying ht, Result.andThen_ok, Go.sizeOf, typeInfo, run_program, hi, Sem.run_pure, run_underlying hx, hz, Bool.false_eq_true, if_false, hl, hfit, if_true, Bool.not_false, hf]
  cases base with
  | none => simp [hn rfl]
  | some a => simp [hs a rfl]
theorem run_ap_new {t tx rt elem : TypeId} {ts : List TypeId} {d : TypeDesc} {i : TypeInfo} {z : Value} (ht : Pg.underlying t = some (.slice elem)) (hx : Pg.underlying tx = some d) (hd : ∀ k, d ≠ .int k) (hi : Pg.info? elem = some i) (hz0 : i.zero = some z)
    {base : Option Addr} {len cap n : Nat} {x : Value} {olds us : List Value} (hl : (Builtin.lenOf x).run Pg w = .ok n w) (ho : ∀ w' : World, w'.heap = w.heap → (Builtin.firstCells i.size len (.slice base len cap)).run Pg w' = .ok olds.toArray w')
    (hf : ∀ w' : World, w'.heap = w.heap → (Builtin.firstCells i.size n x).run Pg w' = .ok us.toArray w') (hfit : ¬ len + n ≤ cap) (hsm : len + n ≤ 1048576) (hby : i.bytes ≤ 1048576) :
    ∃ c w', len + n ≤ c ∧ (Builtin.append_ ((t :: tx :: ts).toArray) rt #[.slice base len cap, x]).run Pg w = .ok (.slice (some ⟨w.heap.size, 0, none⟩) (len + n) c) w' ∧
      w'.heap = w.heap.push (.cells (olds.toArray ++ us.toArray ++ Builtin.zeroCells z.cells (c - (len + n))) elem) ∧ Like w w' := by
  have hz : (match d with | .int _ => true | _ => false) = false := by
    cases d <;> first | rfl | (exact absurd rfl (hd _))
  have h63 : ¬ ((len + n : Nat) : Int) > IntKind.i64.max := by
    have : IntKind.i64.max = 9223372036854775807 := by simp [IntKind.max, IntKind.signed, IntKind.bits]
    omega
  have h48 : ¬ Builtin.nextslicecap (len + n) cap * i.bytes > 2 ^ 48 := by
    have : (len + n) * i.bytes ≤ 1048576 * 1048576 := Nat.mul_le_mul hsm hby
    have := growslice_fits (old := cap) (need := len + n) (bytes := i.bytes) (by omega) (by omega)
    omega
  refine ⟨grownCap w (len + n) cap elem, w.drew.alloc (.cells (olds.toArray ++ us.toArray ++ Builtin.zeroCells z.cells (grownCap w (len + n) cap elem - (len + n))) elem), ?_, ?_, rfl, ⟨rfl, rfl⟩⟩
  · simp [grownCap, Question.cut]
  · have h1 := ho w.drew rfl
    have h2 := hf w.drew rfl
    simp only [Builtin.append_, List.getElem?_toArray, List.getElem?_cons_zero, List.getElem?_cons_succ, Sem.run_bind, run_underlying ht, Result.andThen_ok, Go.sizeOf, typeInfo, run_program, hi, Sem.run_pure, run_underlying hx, hz, Bool.false_eq_true, if_false, hl, hfit, h63, false_and, h48, Sem.run_ite, if_true, Bool.not_false]
    have hc : (choose (.appendCap (len + n) cap elem)).run Pg w = .ok (grownCap w (len + n) cap elem) w.drew := by
      simp only [choose, Sem.run, Question.forced]
      rfl
    simp only [hc, Result.andThen_ok, run_askRoom, h1, h2, zeroValue, typeInfo, Sem.run_bind, run_program, hi, Sem.run_pure, hz0, newRow, run_newObj]
    rfl
theorem RVs.rc {l : List V} {us : List Value} {z : Array Value} (h : RVs ρ l us) : RC ρ l (us.toArray ++ z) := by
  have hl := h.len
  refine ⟨by simp; omega, fun i x hx => ?_⟩
  obtain ⟨v, hv, k⟩ := h.get hx
  have hi := (List.getElem?_eq_some_iff.1 hv).1
  refine ⟨v, ?_, k⟩
  rw [Array.getElem?_append_left (by simpa using hi)]
  simpa using hv
theorem first_zero {size : Nat} {x : V} {v : Value} {m : Nat} (hv : RV ρ x v) (hl : lenS x = some m) : (Builtin.firstCells size 0 v).run Pg w = .ok (#[] : Array Value) w := by
  unfold lenS at hl
  split at hl
  · obtain ⟨s, rfl, hs⟩ := hv
    simp [Builtin.firstCells]
  · have hv : v = _ := hv
    subst hv; simp [Builtin.firstCells]
  · obtain ⟨a, c, rfl⟩ := hv
    simp [Builtin.firstCells, loadCells, loadCellsFrom]
  · obtain ⟨b, m, c, _, rfl, _⟩ := hv
    simp [Builtin.firstCells, loadCells, loadCellsFrom]
  · cases hl
theorem lenL_slice {x : V} {v : Value} {n : Nat} (hv : RV ρ x v) (h : lenL x = some n) : ∃ a c, v = .slice a n c ∧ n ≤ c := by
  unfold lenL at h
  split at h
  · injection h with h; subst h; exact ⟨_, _, hv, Nat.le_refl _⟩
  · injection h with h; subst h; obtain ⟨a, c, rfl⟩ := hv; exact ⟨_, _, rfl, Nat.zero_le _⟩
  · rename_i y off len cap esz
    injection h with h; subst h
    obtain ⟨b, m, c, _, rfl, hc⟩ := hv
    refine ⟨_, _, rfl, ?_⟩
    cases cap <;> exact hc.1
  · cases h
theorem takeN_all : ∀ (l : List V), takeN l.length l = some l
  | [] => rfl
  | x :: r => by simp [takeN, takeN_all r, consTo]
/-- a grown row under a new name -/
theorem grown_ok (P : PgOk) (r : RH ρ H.get H.nx w) {elem : TypeId} {i : TypeInfo} {z : Value} (hT : elem < nT) (hi : Pg.info? elem = some i) (hz0 : i.zero = some z) {run : Result Next} {w' : World} {len n c : Nat} {old cs : List V} {olds us : List Value}
    (ho : RVs ρ old olds) (hu : RVs ρ cs us) (hlo : olds.length = len * i.size) (hlu : us.length = n * i.size) (hc : len + n ≤ c)
    (hrun : run = .ok (.value (.slice (some ⟨w.heap.size, 0, none⟩) (len + n) c)) w') (hw : w'.heap = w.heap.push (.cells (olds.toArray ++ us.toArray ++ Builtin.zeroCells z.cells (c - (len + n))) elem)) (lk : Like w w') :
    OpOk ρ H w run (.h (.sl H.nx 0 (len + n) 0 i.size) (H.new (.c (old ++ cs) elem))) := by
  have hzs := P.zero elem i z hT hi hz0
  have hsz : (olds.toArray ++ us.toArray ++ Builtin.zeroCells z.cells (c - (len + n))).size = c * i.size := by
    simp only [Array.size_append, List.size_toArray, size_zeroCells, hzs, hlo, hlu, ← Nat.add_mul]
    congr 1
    omega
  refine .new (n := c * i.size) r ⟨_, _, rfl, hsz, ?_⟩ hrun hw ⟨w.heap.size, c * i.size, c, by simp [updR], rfl, hc, by omega⟩ rfl lk
  have h1 := (ho.app hu).rc (z := Builtin.zeroCells z.cells (c - (len + n)))
  have e : (olds ++ us).toArray = olds.toArray ++ us.toArray := by simp
  rw [e] at h1
  exact h1.upd r
theorem heap1_some {v : V} {h : Option Hp} (e : heap1 v h = some res) : ∃ H', h = some H' ∧ res = .h v H' := by
  cases h with
  | none => cases e
  | some H' => injection e with e; exact ⟨H', rfl, e.symm⟩
theorem small_some {len n bytes : Nat} (h : small len n bytes = true) : len + n ≤ 1048576 ∧ bytes ≤ 1048576 := by
  unfold small at h
  split at h
  · rename_i h1 h2; exact ⟨of_ble h1, of_ble h2⟩
  · cases h
theorem ok_append (P : PgOk) (r : RH ρ H.get H.nx w) {t tx rt : TypeId} {ts : List TypeId} {s x : V} {vs vx : Value} (hs : RV ρ s vs) (hx : RV ρ x vx) (h : opAppend t tx H s x = some res) :
    OpOk ρ H w (((Builtin.append_ ((t :: tx :: ts).toArray) rt #[vs, vx]).run Pg w).andThen fun v w' => .ok (.value v) w') res := by
  unfold opAppend at h
  split at h
  · rename_i elem ee hni
    have ed := sliceElem_some ee
    obtain ⟨hTt, hni⟩ := both_true hni
    have hTt := of_blt hTt
    obtain ⟨d, ed2, hd⟩ := notInt_some hni
    split at h
    · rename_i size bytes es eb
      obtain ⟨i, ei, rfl⟩ := siz_some es
      have hby : bytes = i.bytes := by
        unfold byteSize at eb
        rw [ei] at eb
        injection eb with eb; exact eb.symm
      subst hby
      unfold apLen at h
      split at h
      · rename_i len n el en
        have hln := src_len (w := w) hx en
        obtain ⟨a, c, rfl, hlc⟩ := lenL_slice hs el
        unfold apGo at h
        split at h
        · -- nothing is appended
          injection h with h; subst h
          have hf := first_zero (w := w) (size := i.size) hx en
          have run := run_ap_fit (w := w) (rt := rt) (ts := ts) (base := a) (us := []) (w' := w) ed ed2 hd ei hln hf hlc (fun _ _ => rfl) (fun _ => rfl)
          exact .pure r (by rw [run]; rfl) hs
        · rename_i n'
          split at h
          · rename_i m cs hsm hsz ec
            split at h
            · rename_i hok
              obtain ⟨hsm, hby⟩ := small_some hsm
              obtain ⟨us, hu, hul, hf⟩ := src_ok r hx en (Nat.succ_pos _) (Nat.le_refl _) ec
              have hpos : 0 < i.size := by omega
              obtain ⟨hT, z, hz⟩ := P.elem t elem i hTt ed ei
              simp only [Nat.succ_eq_add_one] at h hsm hul
              have hm : m + 1 = i.size := by omega
              rw [hm] at h
              unfold apS at h
              split at h
              · -- nil
                have hs : Value.slice a len c = .slice none 0 0 := hs
                injection hs with h1 h2 h3
                subst h1 h2 h3
                have h : some (R.h (.sl H.nx 0 (n' + 1) 0 i.size) (H.new (.c cs elem))) = some res := h
                injection h with h; subst h
                obtain ⟨c', w', hc', run, hw, lk⟩ := run_ap_new (w := w) (rt := rt) (ts := ts) (base := none) (cap := 0) (len := 0) (olds := []) (us := us) ed ed2 hd ei hz hln (fun w' _ => by simp [Builtin.firstCells]) hf (by omega) hsm hby
                have := grown_ok P r hT ei hz (run := .ok (.value (.slice (some ⟨w.heap.size, 0, none⟩) (0 + (n' + 1)) c')) w') (len := 0) (n := n' + 1) (old := []) (olds := []) .nil hu (by simp) hul hc' rfl hw lk
                rw [run]
                simpa using this
              · rename_i y off len' cap esz
                obtain ⟨b, n0, c', hb, hsv, hcap⟩ := hs
                injection hsv with h1 h2 h3
                subst h1 h2 h3
                split at h
                · rename_i l e hes eg
                  have hes := of_beq hes
                  subst hes
                  obtain ⟨b', n1, e1, cc, e', e2, e3, e4⟩ := r.obj y _ eg rfl
                  rw [hb] at e1
                  injection e1 with e1; injection e1 with e1 e1'; subst e1 e1'
                  cases cap with
                  | zero =>
                    obtain ⟨hc1, hc2⟩ := hcap
                    simp only at h
                    unfold apU at h
                    split at h
                    · rename_i hfit
                      have hfit := of_ble hfit
                      obtain ⟨H', hst, rfl⟩ := heap1_some h
                      have hle := e4.1
                      have hroom : len + (n' + 1) ≤ c := by
                        have h5 : (len + (n' + 1)) * i.size ≤ c * i.size := by omega
                        exact Nat.le_of_mul_le_mul_right h5 hpos
                      obtain ⟨w', run, r', to⟩ := storeH_ok r hst hu hb
                      have run2 := run_ap_fit (w := w) (rt := rt) (ts := ts) (base := some ⟨b, off, none⟩) (us := us) (w' := w') ed ed2 hd ei hln (hf w rfl) hroom (fun a ha => by injection ha with ha; subst ha; rw [add_eq]; exact run) (fun h => by cases h)
                      rw [run2]
                      exact ⟨ρ, _, _, w', rfl, .inl rfl, ⟨b, n0, c, hb, rfl, hroom, hc2⟩, r', to⟩
                    · split at h
                      · rename_i h5 h6 h7
                        have h5 := of_beq h5
                        have h6 := of_beq h6
                        have h7 := of_beq h7
                        subst h5 h7
                        have h : some (R.h (.sl (H.set y .dead).nx 0 (len + (n' + 1)) 0 i.size) ((H.set y .dead).new (.c (l ++ cs) e))) = some res := h
                        injection h with h; subst h
                        rw [Hp.nx_set]
                        by_cases hroom : len + (n' + 1) ≤ c
                        · -- in place
                          have hfit : 0 + len * i.size + us.length ≤ cc.size := by
                            rw [hul, e3]
                            have : (len + (n' + 1)) * i.size ≤ c * i.size := Nat.mul_le_mul_right _ hroom
                            rw [Nat.add_mul] at this
                            omega
                          have run := run_storeCells_at Pg b (len * i.size) e' us 0 cc w e2 (by omega) (okL_one hu hok)
                          simp only [Nat.add_zero] at run
                          have run2 := run_ap_fit (w := w) (rt := rt) (ts := ts) (base := some ⟨b, 0, none⟩) (us := us) (w' := _) ed ed2 hd ei hln (hf w rfl) hroom (fun a ha => by injection ha with ha; subst ha; rw [add_eq, Nat.zero_add]; exact run) (fun h => by cases h)
                          rw [run2]
                          have hup := upd_setRow (cc.toList.take (len * i.size) ++ us ++ cc.toList.drop (len * i.size + us.length)).toArray e2
                          have hrc : RC ρ (l ++ cs) (cc.toList.take (len * i.size) ++ us ++ cc.toList.drop (len * i.size + us.length)).toArray := by
                            have hlen := hu.len
                            refine ⟨by simp; omega, fun j u hj => ?_⟩
                            simp only [List.getElem?_toArray]
                            by_cases hjl : j < l.length
                            · rw [List.getElem?_append_left hjl] at hj
                              obtain ⟨v, hv, k⟩ := e4.2 _ _ hj
                              refine ⟨v, ?_, k⟩
                              rw [List.append_assoc, List.getElem?_append_left (by simp; omega)]
                              rw [List.getElem?_take, if_pos (by omega)]
                              simpa using hv
                            · rw [List.getElem?_append_right (by omega)] at hj
                              obtain ⟨v, hv, k⟩ := hu.get hj
                              have := (List.getElem?_eq_some_iff.1 hv).1
                              refine ⟨v, ?_, k⟩
                              rw [List.append_assoc, List.getElem?_append_right (by simp; omega), List.getElem?_append_left (by simp; omega), ← hv]
                              congr 1; simp; omega
                          have hsz2 : (cc.toList.take (len * i.size) ++ us ++ cc.toList.drop (len * i.size + us.length)).toArray.size = n0 := by simp; omega
                          obtain ⟨r', to⟩ := r.move (o' := .c (l ++ cs) e) eg rfl hb hup rfl ⟨_, _, rfl, hsz2, hrc.upd r⟩
                          refine ⟨updR ρ H.nx b n0, _, _, _, rfl, .inl rfl, ⟨b, n0, c, by simp [updR], rfl, hroom, hc2⟩, ?_⟩
                          rw [get_new_fun, get_set_fun, Hp.nx_new, Hp.nx_set]
                          exact ⟨r', to⟩
                        · -- a new row
                          have hsub : sub l 0 (len * i.size) = some l := by
                            unfold sub
                            rw [dropN_eq, h6]
                            simp
                            exact takeN_all l
                          obtain ⟨olds, k1, k2, k3, k4⟩ := load_cells e2 e4 hsub
                          obtain ⟨c', w', hc', run, hw, lk⟩ := run_ap_new (w := w) (rt := rt) (ts := ts) (base := some ⟨b, 0, none⟩) (cap := c) (len := len) (olds := olds) (us := us) ed ed2 hd ei hz hln (fun w' hw' => by
                            have e6' : w'.heap[b]? = some (.cells cc e' (0, 0)) := by rw [hw']; exact e2
                            exact run_firstCells_some (P := Pg) w' i.size len ⟨b, 0, none⟩ len c olds k3 (fun j u hj => by
                              have := k4 j u hj
                              rw [add_eq] at this ⊢
                              rw [cell_at e2] at this
                              rw [cell_at e6']
                              exact this)) hf hroom hsm hby
                          rw [run]
                          have hg := grown_ok P r hT ei hz (run := .ok (.value (.slice (some ⟨w.heap.size, 0, none⟩) (len + (n' + 1)) c')) w') k2 hu k3 hul hc' rfl hw lk
                          obtain ⟨ρ', nv, v', w2, g1, g2, g3, g4, g5⟩ := hg
                          refine ⟨ρ', nv, v', w2, g1, g2, g3, ?_⟩
                          rw [get_new_fun, get_set_fun, Hp.nx_new, Hp.nx_set]
                          rw [get_new_fun, Hp.nx_new] at g4 g5
                          have hyn : y ≠ H.nx := fun e => by
                            have := r.fresh H.nx (Nat.le_refl _)
                            rw [e, this] at hb; cases hb
                          have hcomm : updG (updG H.get y .dead) H.nx (.c (l ++ cs) e) = updG (updG H.get H.nx (.c (l ++ cs) e)) y .dead := by
                            funext q
                            unfold updG
                            by_cases q1 : q = H.nx
                            · subst q1; rw [if_pos rfl, if_neg (Ne.symm hyn), if_pos rfl]
                            · simp [q1]
                          rw [hcomm]
                          refine ⟨g4.less ?_, g5.kill⟩
                          intro q p hq hp
                          unfold updG at hq
                          split at hq
                          · injection hq with hq; subst hq; simp [O.isDead] at hp
                          · exact hq
                      · cases h
                  | succ k =>
                    obtain ⟨hc1, hc2⟩ := hcap
                    subst hc2
                    simp only at h
                    unfold apK at h
                    split at h
                    · rename_i hfit
                      have hroom := of_ble hfit
                      obtain ⟨H', hst, rfl⟩ := heap1_some h
                      obtain ⟨w', run, r', to⟩ := storeH_ok r hst hu hb
                      have run2 := run_ap_fit (w := w) (rt := rt) (ts := ts) (base := some ⟨b, off, none⟩) (us := us) (w' := w') ed ed2 hd ei hln (hf w rfl) hroom (fun a ha => by injection ha with ha; subst ha; rw [add_eq]; exact run) (fun h => by cases h)
                      rw [run2]
                      exact ⟨ρ, _, _, w', rfl, .inl rfl, ⟨b, n0, c, hb, rfl, hroom, rfl⟩, r', to⟩
                    · rename_i hfit
                      have hroom := of_ble_f hfit
                      split at h
                      · rename_i old hsub
                        have h : some (R.h (.sl H.nx 0 (len + (n' + 1)) 0 i.size) (H.new (.c (old ++ cs) elem))) = some res := h
                        injection h with h; subst h
                        obtain ⟨olds, k1, k2, k3, k4⟩ := load_cells e2 e4 hsub
                        obtain ⟨c', w', hc', run, hw, lk⟩ := run_ap_new (w := w) (rt := rt) (ts := ts) (base := some ⟨b, off, none⟩) (cap := c) (len := len) (olds := olds) (us := us) ed ed2 hd ei hz hln (fun w' hw' => by
                          have e6' : w'.heap[b]? = some (.cells cc e' (0, 0)) := by rw [hw']; exact e2
                          exact run_firstCells_some (P := Pg) w' i.size len ⟨b, off, none⟩ len c olds k3 (fun j u hj => by
                            have := k4 j u hj
                            rw [add_eq] at this ⊢
                            rw [cell_at e2] at this
                            rw [cell_at e6']
                            exact this)) hf (by omega) hsm hby
                        rw [run]
                        exact grown_ok P r hT ei hz k2 hu k3 hul hc' rfl hw lk
                      · cases h
                · cases h
              · cases h
            · cases h
          · cases h
      · cases h
    · cases h
  · cases h
theorem isInt_some {t : TypeId} (h : isInt (und t) = true) : ∃ k, Pg.underlying t = some (.int k) := by
  unfold isInt at h
  split at h
  · rename_i k ed; exact ⟨k, ed⟩
  · cases h
theorem run_ap_newZ {t tx rt elem : TypeId} {ts : List TypeId} {k : IntKind} {i : TypeInfo} {z : Value} (ht : Pg.underlying t = some (.slice elem)) (hx : Pg.underlying tx = some (.int k)) (hi : Pg.info? elem = some i) (hz0 : i.zero = some z)
    {base : Option Addr} {len cap n : Nat} {olds : List Value} (ho : ∀ w' : World, w'.heap = w.heap → (Builtin.firstCells i.size len (.slice base len cap)).run Pg w' = .ok olds.toArray w')
    (hn : ¬ n * i.size = 0) (hfit : ¬ len + n ≤ cap) (hsm : len + n ≤ 1048576) (hby : i.bytes ≤ 1048576) :
    ∃ c w', len + n ≤ c ∧ (Builtin.append_ ((t :: tx :: ts).toArray) rt #[.slice base len cap, .int .i64 (.ofNat n)]).run Pg w = .ok (.slice (some ⟨w.heap.size, 0, none⟩) (len + n) c) w' ∧
      w'.heap = w.heap.push (.cells (olds.toArray ++ (Builtin.zeroCells z.cells n).toList.toArray ++ Builtin.zeroCells z.cells (c - (len + n))) elem) ∧ Like w w' := by
  have h63 : ¬ ((len + n : Nat) : Int) > IntKind.i64.max := by
    have : IntKind.i64.max = 9223372036854775807 := by simp [IntKind.max, IntKind.signed, IntKind.bits]
    omega
  have h48 : ¬ Builtin.nextslicecap (len + n) cap * i.bytes > 2 ^ 48 := by
    have : (len + n) * i.bytes ≤ 1048576 * 1048576 := Nat.mul_le_mul hsm hby
    have := growslice_fits (old := cap) (need := len + n) (bytes := i.bytes) (by omega) (by omega)
    omega
  have hw : IntKind.i64.wrap (Int.ofNat n) = (n : Int) := by
    have e : wrapI .i64 (.ofNat n) = IntKind.i64.wrap (.ofNat n) := wrapI_eq _ _
    have hb : Nat.ble n (topI .i64) = true := Nat.ble_eq_true_of_le (show n ≤ 9223372036854775807 by omega)
    rw [← e]
    change (match Nat.ble n (topI .i64) with
      | true => Int.ofNat n
      | false => IntKind.i64.wrap (.ofNat n)) = _
    rw [hb]
    rfl
  have hl0 : ¬ (n : Int) < 0 := by omega
  have hl1 : ¬ (n : Int) * (i.bytes : Int) > 2 ^ 48 := by
    have : n * i.bytes ≤ 1048576 * 1048576 := Nat.mul_le_mul (by omega) hby
    have h2 : (n : Int) * (i.bytes : Int) ≤ 1099511627776 := by
      rw [← Int.natCast_mul]
      exact Int.ofNat_le.2 this
    omega
  refine ⟨grownCap w (len + n) cap elem, w.drew.alloc (.cells (olds.toArray ++ (Builtin.zeroCells z.cells n).toList.toArray ++ Builtin.zeroCells z.cells (grownCap w (len + n) cap elem - (len + n))) elem), ?_, ?_, rfl, ⟨rfl, rfl⟩⟩
  · simp [grownCap, Question.cut]
  · have h1 := ho w.drew rfl
    simp only [Builtin.append_, List.getElem?_toArray, List.getElem?_cons_zero, List.getElem?_cons_succ, Sem.run_bind, run_underlying ht, Result.andThen_ok, Go.sizeOf, typeInfo, run_program, hi, Sem.run_pure, run_underlying hx, if_true, asInt, asIntOf, hw, hl0, if_false, hl1, Int.toNat_natCast, hfit, h63, false_and, h48, Sem.run_ite, Bool.not_true, Bool.false_eq_true]
    have hc : (choose (.appendCap (len + n) cap elem)).run Pg w = .ok (grownCap w (len + n) cap elem) w.drew := by
      simp only [choose, Sem.run, Question.forced]
      rfl
    simp only [hc, Result.andThen_ok, run_askRoom, h1, hn, if_false, zeroValue, typeInfo, Sem.run_bind, run_program, hi, Sem.run_pure, hz0, newRow, run_newObj, Array.toArray_toList]
    rfl
theorem zeroCells_rvs {z : V} {zv : Value} (h : RVs ρ z.cells zv.cells.toList) (n : Nat) : RVs ρ (rep z.cells n) (Builtin.zeroCells zv.cells n).toList := by
  have hl := h.len
  have hl : z.cells.length = zv.cells.size := by simpa using hl
  refine RVs.of_get (by rw [rep_len, hl]; simp [Builtin.zeroCells]) fun i x v hx hv => ?_
  have hx' := rep_get _ _ _ _ hx
  obtain ⟨u, hu, hr⟩ := h.get hx'
  have hi : i < n * zv.cells.size := by
    have := (List.getElem?_eq_some_iff.1 hx).1
    rw [rep_len, hl] at this; exact this
  have hv' : v = u := by
    rw [hl] at hu
    have hu : zv.cells[i % zv.cells.size]? = some u := by simpa using hu
    simp only [Builtin.zeroCells, Array.getElem?_toList, Array.getElem?_map, Array.getElem?_range, hi, if_true, Option.map_some, Option.some.injEq] at hv
    rw [← hv, Array.getElem!_eq_getD, Array.getD_eq_getD_getElem?, hu]
    rfl
  subst hv'
  exact hr
theorem ok_appendZ (P : PgOk) (r : RH ρ H.get H.nx w) {t tx rt : TypeId} {ts : List TypeId} {s x : V} {vs vx : Value} (hs : RV ρ s vs) (hx : RV ρ x vx) (h : opAppendZ t tx H s x = some res) :
    OpOk ρ H w (((Builtin.append_ ((t :: tx :: ts).toArray) rt #[vs, vx]).run Pg w).andThen fun v w' => .ok (.value v) w') res := by
  unfold opAppendZ at h
  split at h
  · rename_i elem ee hni
    have ed := sliceElem_some ee
    obtain ⟨hTt, hni⟩ := both_true hni
    have hTt := of_blt hTt
    obtain ⟨k, ed2⟩ := isInt_some hni
    split at h
    · rename_i m bytes y off len c esz n es eb
      obtain ⟨i, ei, hm⟩ := siz_some es
      have hby : bytes = i.bytes := by
        unfold byteSize at eb
        rw [ei] at eb
        injection eb with eb; exact eb.symm
      subst hby
      split at h
      · rename_i hck
        obtain ⟨h1, h2⟩ := both_true hck
        obtain ⟨h2, h3⟩ := both_true h2
        obtain ⟨hsm, hby⟩ := small_some h2
        have h3 := of_blt h3
        have h1 := of_beq h1
        unfold apZk at h
        split at h
        · rename_i l e' hg
          split at h
          · rename_i old zs hsub hzs
            have h : some (R.h (.sl H.nx 0 (len + Nat.succ n) 0 (Nat.succ m)) (H.new (.c (old ++ zs) elem))) = some res := h
            injection h with h; subst h
            obtain ⟨q, hq, rfl⟩ := rep?_some hzs
            obtain ⟨z, ez, rfl⟩ := cells?_some hq
            obtain ⟨i', zv, e1, e2, e3⟩ := zeroV_some ez
            rw [ei] at e1; injection e1 with e1; subst e1
            obtain ⟨b, n0, cq, hb, rfl, hc1, hc2⟩ := hs
            subst hc2
            have hx : vx = .int .i64 (.ofNat (n + 1)) := hx
            subst hx
            obtain ⟨b', n', hb', cc, e5, k1, k2, k3⟩ := r.obj y _ hg rfl
            rw [hb] at hb'; injection hb' with hb'; injection hb' with hb1 hb2; subst hb1 hb2
            have hm : Nat.succ m = i.size := hm.symm
            rw [hm] at hsub ⊢
            obtain ⟨olds, q1, q2, q3, q4⟩ := load_cells k1 k3 hsub
            have hz := ofVal_cells ρ e3
            have hzs := P.zero elem i zv (zeroV_lt ez) ei e2
            have hne : ¬ (n + 1) * i.size = 0 := by
              intro e0
              rcases Nat.mul_eq_zero.1 e0 with e0 | e0 <;> omega
            obtain ⟨c', w', hc', run, hw, lk⟩ := run_ap_newZ (w := w) (rt := rt) (ts := ts) (base := some ⟨b, off, none⟩) (cap := cq) (len := len) (n := n + 1) (olds := olds) ed ed2 ei e2 (fun w' hw' => by
              have e6' : w'.heap[b]? = some (.cells cc e5 (0, 0)) := by rw [hw']; exact k1
              exact run_firstCells_some (P := Pg) w' i.size len ⟨b, off, none⟩ len cq olds q3 (fun j u hj => by
                have := q4 j u hj
                rw [add_eq] at this ⊢
                rw [cell_at k1] at this
                rw [cell_at e6']
                exact this)) hne (by simp only [Nat.succ_eq_add_one] at h3; omega) hsm hby
            rw [run]
            exact grown_ok P r (zeroV_lt ez) ei e2 q2 (zeroCells_rvs hz (n + 1)) q3 (by simp [Builtin.zeroCells, hzs]) hc' rfl hw lk
          · cases h
        · cases h
      · cases h
    · cases h
  · cases h
theorem ok_app (P : PgOk) (r : RH ρ H.get H.nx w) {t tx rt : TypeId} {ts : List TypeId} {s x : V} {vs vx : Value} (hs : RV ρ s vs) (hx : RV ρ x vx) (h : opApp t tx H s x = some res) :
    OpOk ρ H w (((Builtin.append_ ((t :: tx :: ts).toArray) rt #[vs, vx]).run Pg w).andThen fun v w' => .ok (.value v) w') res := by
  unfold opApp at h
  split at h
  · exact ok_appendZ P r hs hx h
  · exact ok_append P r hs hx h
end
end
end Go.Proofs.YtmikbfdpenggjaaGreatDoor.Cv
namespace Go.Proofs.YtmikbfdpenggjaaGreatDoor.Cv
open Go
noncomputable section
section
variable {ρ : Rho} {H : Hp} {w : World} {nt : Nat} {T : Tr V} {tm : Array Value} {o : Oper} {res : R}
theorem minN_eq (a b : Nat) : minN a b = Nat.min a b := by
  unfold minN
  split
  · rename_i h; have h := of_ble h; exact (Nat.min_eq_left h).symm
  · rename_i h; have h := of_ble_f h; exact (Nat.min_eq_right (by omega)).symm
theorem heap_some {v : V} {h : Option Hp} (e : heap v h = some res) : ∃ H', h = some H' ∧ res = .h v H' := by
  cases h with
  | none => cases e
  | some H' => injection e with e; exact ⟨H', rfl, e.symm⟩
theorem ok_copy (r : RH ρ H.get H.nx w) {t rt : TypeId} {ts : List TypeId} {d x : V} {vd vx : Value} (hd : RV ρ d vd) (hx : RV ρ x vx) (h : opCopy t H d x = some res) :
    OpOk ρ H w (((Builtin.copy_ ((t :: ts).toArray) rt #[vd, vx]).run Pg w).andThen fun v w' => .ok (.value v) w') res := by
  unfold opCopy at h
  split at h
  · rename_i e a b ee ea eb
    have ed := sliceElem_some ee
    split at h
    · rename_i size es
      obtain ⟨i, ei, rfl⟩ := siz_some es
      have hln := src_len (w := w) hx eb
      obtain ⟨ad, c, rfl, hlc⟩ := lenL_slice hd ea
      rw [minN_eq] at h
      have run : ∀ (us : List Value) (w' : World), (Builtin.firstCells i.size (Nat.min b a) vx).run Pg w = .ok us.toArray w → (∀ p, ad = some p → (storeCells p us).run Pg w = .ok () w') → (ad = none → w' = w) →
          (Builtin.copy_ ((t :: ts).toArray) rt #[.slice ad a c, vx]).run Pg w = .ok (goInt (Nat.min b a)) w' := by
        intro us w' h1 h2 h3
        simp only [Builtin.copy_, List.getElem?_toArray, List.getElem?_cons_zero, List.getElem?_cons_succ, Sem.run_bind, run_underlying ed, Result.andThen_ok, hln, Go.sizeOf, typeInfo, run_program, ei, Sem.run_pure, h1]
        cases ad with
        | none => simp [h3 rfl]
        | some p => simp [h2 p rfl]
      generalize hn : Nat.min b a = n at h run
      cases n with
      | zero =>
        injection h with h; subst h
        have hf := first_zero (w := w) (size := i.size) hx eb
        exact .pure r (by rw [run [] w hf (fun _ _ => rfl) (fun _ => rfl)]; rfl) rfl
      | succ n =>
        have h : cpTo H (n + 1) (srcCells i.size H (n + 1) x) d = some res := h
        unfold cpTo at h
        split at h
        · rename_i y off len cap esz
          obtain ⟨bb, n0, c', hb, hsv, _⟩ := hd
          injection hsv with h1 h2 h3
          subst h1 h2 h3
          split at h
          · rename_i cs ec
            obtain ⟨H', hst, rfl⟩ := heap_some h
            have hnm : n + 1 ≤ b := by rw [← hn]; exact Nat.min_le_left _ _
            obtain ⟨us, hu, hul, hf⟩ := src_ok r hx eb (Nat.succ_pos _) hnm ec
            obtain ⟨w', run2, r', to⟩ := storeH_ok r hst hu hb
            rw [run us w' (hf w rfl) (fun p hp => by injection hp with hp; subst hp; exact run2) (fun h => by cases h)]
            exact ⟨ρ, _, _, w', rfl, .inl rfl, rfl, r', to⟩
          · cases h
        · cases h
    · cases h
  · cases h
theorem ok_clear (P : PgOk) (r : RH ρ H.get H.nx w) {t rt : TypeId} {ts : List TypeId} {x : V} {vx : Value} (hx : RV ρ x vx) (h : opClear t H x = some res) :
    OpOk ρ H w (((Builtin.clear_ ((t :: ts).toArray) rt #[vx]).run Pg w).andThen fun v w' => .ok (.value v) w') res := by
  unfold opClear at h
  split at h
  · split at h
    · rename_i k e ed
      have ed : Pg.underlying t = some (.map k e) := ed
      have hx : vx = _ := hx
      subst hx
      injection h with h; subst h
      exact .pure r (v := .tuple #[]) (by simp [Builtin.clear_, run_underlying ed]) ⟨_, rfl, rfl⟩
    · cases h
  · rename_i y
    split at h
    · rename_i k e es c ed eg
      have ed : Pg.underlying t = some (.map k e) := ed
      obtain ⟨b, n, hb, rfl⟩ := hx
      injection h with h; subst h
      obtain ⟨b', n', e1, es', e2, e3⟩ := r.obj y _ eg rfl
      rw [hb] at e1
      injection e1 with e1; injection e1 with e1 e1'; subst e1 e1'
      have up := upd_set (.map #[] c) e2
      have h1 := r.upd (o' := .m [] c) eg rfl hb up (.inl rfl) ⟨#[], rfl, rfl⟩
      refine ⟨ρ, _, .tuple #[], { w with heap := w.heap.setIfInBounds b (.map #[] c) }, ?_, .inl rfl, ⟨_, rfl, rfl⟩, ?_⟩
      · simp [Builtin.clear_, run_underlying ed, run_getMap e2, run_setOther e2]
      · rw [get_set_fun, Hp.nx_set]; exact h1
    · cases h
  · split at h
    · rename_i e ed
      have ed : Pg.underlying t = some (.slice e) := ed
      have hx : vx = _ := hx
      subst hx
      injection h with h; subst h
      exact .pure r (v := .tuple #[]) (by simp [Builtin.clear_, run_underlying ed]) ⟨_, rfl, rfl⟩
    · cases h
  · split at h
    · rename_i e ed
      have ed : Pg.underlying t = some (.slice e) := ed
      obtain ⟨a, c, rfl⟩ := hx
      injection h with h; subst h
      exact .pure r (v := .tuple #[]) (by simp [Builtin.clear_, run_underlying ed]) ⟨_, rfl, rfl⟩
    · cases h
  · rename_i y off n cap esz
    obtain ⟨b, m, c, hb, rfl, _⟩ := hx
    split at h
    · rename_i e ee
      have ed := sliceElem_some ee
      split at h
      · rename_i zl ez
        obtain ⟨H', hst, rfl⟩ := heap_some h
        obtain ⟨q, ez2, rfl⟩ := rep?_some ez
        obtain ⟨z, ez3, rfl⟩ := cells?_some ez2
        obtain ⟨i, zv, e3, e4, e5⟩ := zeroV_some ez3
        have hz := ofVal_cells ρ e5
        have hrc := rc_rep hz n
        have hl := hz.len
        simp at hl
        have hrv := hrc.rvs (by rw [rep_len, size_madeCells, hl])
        obtain ⟨w', run2, r', to⟩ := storeH_ok r hst hrv hb
        refine ⟨ρ, _, .tuple #[], w', ?_, .inl rfl, ⟨_, rfl, rfl⟩, r', to⟩
        cases n with
        | zero =>
          have e0 : (madeCells zv.cells (0 * zv.cells.size)).toList = [] := by simp [madeCells]
          rw [e0] at run2
          have run2 : Result.ok () w = Result.ok () w' := run2
          injection run2 with _ run2
          subst run2
          simp [Builtin.clear_, run_underlying ed]
        | succ n =>
          have run2 : (storeCells ⟨b, off, none⟩ (Builtin.zeroCells zv.cells (n + 1)).toList).run Pg w = .ok () w' := run2
          simp [Builtin.clear_, run_underlying ed, zeroValue, typeInfo, e3, e4, run2]
      · cases h
    · cases h
  · cases h
theorem list_arr {α : Type} {a : Array α} {l : List α} (h : a.toList = l) : a = l.toArray := by rw [← h]
theorem ok_builtin (P : PgOk) (r : RH ρ H.get H.nx w) (t : RT ρ nt T tm) {c : Call} {b : Builtin} {args : List V} (ho : o.op = .call c) (hc : c.callee = .builtin b) (ea : evs T c.args.toList = some args) (h : opBuiltin b c.argTypes.toList H args = some res) :
    OpOk ρ H w ((execOp (evm tm) o).run Pg w) res := by
  have hr := evs_rel r.glob t ea
  have hargs : c.args.map (evm tm) = (c.args.toList.map (evm tm)).toArray := by apply Array.toList_inj.1; simp
  generalize hvs : c.args.toList.map (evm tm) = vs at hr hargs
  have run : (execOp (evm tm) o).run Pg w = (builtin b c.argTypes o.type (c.args.map fun | .const _ => true | _ => false) vs.toArray).run Pg w := by
    simp only [execOp, ho, resolve, hc, invoke, hargs, Sem.run_bind, Sem.run_pure, Result.andThen_ok]
    rfl
  rw [run]
  unfold opBuiltin at h
  split at h
  · rename_i t1 ts x e1
    rw [list_arr e1]
    obtain ⟨v, _, rfl, h1, h2⟩ := hr
    cases h2
    obtain ⟨u, k1, y, rfl, k2⟩ := ok_len (rt := o.type) (ts := ts) r h1 h
    exact .pure r (by simp [builtin, k1]) k2
  · rename_i t1 t2 ts s x e1
    rw [list_arr e1]
    obtain ⟨v, _, rfl, h1, h2⟩ := hr
    obtain ⟨v2, _, rfl, h3, h4⟩ := h2
    cases h4
    have := ok_app P r (rt := o.type) (ts := ts) h1 h3 h
    simpa [builtin] using this
  · rename_i t1 ts d x e1
    rw [list_arr e1]
    obtain ⟨v, _, rfl, h1, h2⟩ := hr
    obtain ⟨v2, _, rfl, h3, h4⟩ := h2
    cases h4
    have := ok_copy r (rt := o.type) (ts := ts) h1 h3 h
    simpa [builtin] using this
  · rename_i t1 ts d x e1
    rw [list_arr e1]
    obtain ⟨v, _, rfl, h1, h2⟩ := hr
    obtain ⟨v2, _, rfl, h3, h4⟩ := h2
    cases h4
    have := ok_delete r (rt := o.type) (ts := ts) h1 h3 h
    simpa [builtin] using this
  · rename_i t1 ts x e1
    rw [list_arr e1]
    obtain ⟨v, _, rfl, h1, h2⟩ := hr
    cases h2
    have := ok_clear P r (rt := o.type) (ts := ts) h1 h
    simpa [builtin] using this
  · have := ok_max (ts := c.argTypes) (rt := o.type) r hr h
    simpa [builtin] using this
  · rename_i t1 ts x e1
    rw [list_arr e1]
    obtain ⟨v, _, rfl, h1, h2⟩ := hr
    cases h2
    split at h
    · rename_i e ed
      have := ok_cap r (rt := o.type) (ts := ts) ed h1 h
      simpa [builtin] using this
    · cases h
  · injection h with h; subst h
    show _ = _
    simp [builtin]
  · cases h
theorem ok_call (P : PgOk) (r : RH ρ H.get H.nx w) (t : RT ρ nt T tm) {c : Call} (ho : o.op = .call c) (h : opCall c T H = some res) :
    OpOk ρ H w ((execOp (evm tm) o).run Pg w) res := by
  unfold opCall at h
  split at h
  · rename_i args ea
    split at h
    · rename_i b hc
      exact ok_builtin P r t ho hc ea h
    · rename_i f hc
      split at h
      · rename_i v ev
        have hr := evs_rel r.glob t ea
        have hargs : c.args.map (evm tm) = (c.args.toList.map (evm tm)).toArray := by apply Array.toList_inj.1; simp
        have hf := ev_rel r.glob t ev
        have h : opFnv H args v (asFn v) = some res := h
        cases ef : asFn v with
        | some q =>
          obtain ⟨fi, cap⟩ := q
          rw [ef] at h
          rw [asFn_some ef] at hf
          obtain ⟨cs, hcs, hcr⟩ := hf
          have key : ∀ a2, a2 = args ++ cap → OpOk ρ H w ((execOp (evm tm) o).run Pg w) (.call fi a2) := by
            rintro a2 rfl
            refine ⟨c.args.toList.map (evm tm) ++ cs.toList, hr.app hcr, fun fn cd h1 h2 => ?_⟩
            have hn := P.name fi fn h1
            have e : c.args.map (evm tm) ++ cs = (c.args.toList.map (evm tm) ++ cs.toList).toArray := by
              apply Array.toList_inj.1; simp
            have hn : ¬ fn.name = "runtime.NumGoroutine" := by simpa using hn
            simp [execOp, ho, resolve, hc, hcs, Deferred.ofValue, invoke, callFunc, h1, h2, hn, e]
          cases cap with
          | cons x l => injection h with h; subst h; exact key _ rfl
          | nil =>
            have h : ovTo H fi args (Nat.beq fi ovF) = some res := h
            cases hov : Nat.beq fi ovF with
            | false => rw [hov] at h; injection h with h; subst h; exact key _ (by simp)
            | true =>
              rw [hov] at h
              have hov := of_beq hov
              subst hov
              have h : ovR H args = some res := h
              have hcs0 : cs = #[] := by have := hcr; simp [RVs] at this; exact this
              subst hcs0
              obtain ⟨tS, tR, e, n, o1, o2, o3⟩ := P.ov
              unfold ovR at h
              split at h
              · rename_i x o' l' c' e' y o'' l'' c'' e'' _ _ _
                split at h
                · cases h
                · rename_i hxy
                  have hxy := of_beq_f hxy
                  cases hx : H.get x with
                  | none => rw [hx] at h; cases h
                  | some ox =>
                    cases hy : H.get y with
                    | none => rw [hx, hy] at h; cases ox <;> cases h
                    | some oy =>
                      rw [hx, hy] at h
                      cases ox <;> first | (cases h; done) | skip
                      rename_i lx tx
                      cases oy <;> first | (cases h; done) | skip
                      rename_i ly ty
                      cases ly with
                      | nil => cases h
                      | cons z ly =>
                        injection h with h; subst h
                        obtain ⟨v1, _, hvs, ⟨bx, nx, ca, p1, rfl, _⟩, hr2⟩ := hr
                        obtain ⟨v2, _, hvs2, ⟨bY, nY, cb, p2, rfl, _⟩, hr3⟩ := hr2
                        have hr3 : _ = [] := hr3
                        subst hvs2 hr3
                        obtain ⟨bx', nx', q1, cx, tX, q2, q3, q4⟩ := r.obj x _ hx rfl
                        obtain ⟨by', ny', q5, cy, tY, q6, q7, q8⟩ := r.obj y _ hy rfl
                        rw [p1] at q1
                        injection q1 with q1; injection q1 with q1 _; subst q1
                        rw [p2] at q5
                        injection q5 with q5; injection q5 with q5 _; subst q5
                        have hne : bx ≠ bY := fun e => hxy (by subst e; exact r.inj x y _ _ bx nx nY hx hy rfl rfl p1 p2)
                        obtain ⟨i, ei, hi⟩ := siz_some o2
                        have hky : cy.size ≠ 0 := by have := q8.1; simp at this; omega
                        have hrun := Lib.run_overlaps_apart (P := Pg) w tS tR e o1 n (fun w => by simp [Go.sizeOf, typeInfo, ei, hi]) ⟨bx, o', none⟩ ⟨bY, o'', none⟩ l' ca l'' cb hne tX tY cx.size cy.size
                          (by simp [World.shape?, q2]) (by simp [World.shape?, q6]) hky (by simp [World.frozen?, q2]) (by simp [World.frozen?, q2])
                        have hargs2 : c.args.map (evm tm) = #[.slice (some ⟨bx, o', none⟩) l' ca, .slice (some ⟨bY, o'', none⟩) l'' cb] := by rw [hargs, hvs]
                        refine .pure r (v := .bool false) ?_ rfl
                        have hcf := o3 #[.slice (some ⟨bx, o', none⟩) l' ca, .slice (some ⟨bY, o'', none⟩) l'' cb] w
                        rw [hrun] at hcf
                        simp only [Result.andThen_ok] at hcf
                        simp only [execOp, ho, resolve, hc, hcs, Deferred.ofValue, invoke, Sem.run_bind, Sem.run_pure, Result.andThen_ok, hargs2]
                        simpa using hcf
              · cases h
        | none =>
          rw [ef] at h
          have h : opYd args v = some res := h
          unfold opYd at h
          split at h
          · rename_i l
            injection h with h; subst h
            obtain ⟨b, n, hb, hfv⟩ := hf
            refine ⟨c.args.toList.map (evm tm), b, n, hb, hr, ?_⟩
            rw [← hargs]
            simp [execOp, ho, resolve, hc, hfv, Deferred.ofValue, invoke]
          · cases h
      · cases h
    · cases h
  · cases h
theorem ok_defer (r : RH ρ H.get H.nx w) (t : RT ρ nt T tm) {c : Call} (ho : o.op = .defer c) (h : opDefer c T = some res) :
    OpOk ρ H w ((execOp (evm tm) o).run Pg w) res := by
  unfold opDefer at h
  split at h
  · rename_i args ea
    split at h
    · rename_i f hc
      split at h
      · rename_i v ev
        have hr := evs_rel r.glob t ea
        have hf := ev_rel r.glob t ev
        unfold dfTo at h
        split at h
        · rename_i fi cap
          injection h with h; subst h
          obtain ⟨cs, hcs, hcr⟩ := hf
          refine ⟨{ target := .fn (.func fi) cs, args := c.args.map (evm tm) }, ?_, cs.toList, c.args.toList.map (evm tm), ?_, hr.app hcr⟩
          · simp [execOp, ho, resolve, hc, hcs, Deferred.ofValue]
          · simp
            apply Array.toList_inj.1; simp
        · cases h
      · cases h
    · cases h
  · cases h
/-- every operation -/
theorem opF_ok (P : PgOk) (r : RH ρ H.get H.nx w) (t : RT ρ nt T tm) (h : opF o.op T H = some res) : OpOk ρ H w ((execOp (evm tm) o).run Pg w) res := by
  cases ho : o.op <;> rw [ho] at h <;> first | (cases h; done) | skip
  · exact ok_move r t (.inl ho) h
  · exact ok_move r t (.inr ho) h
  · exact ok_pick r t ho h
  · exact ok_alloc r ho h
  · exact ok_box r t ho h
  · exact ok_build P r t ho h
  · exact ok_buildSlice P r t ho h
  · exact ok_load r t ho h
  · exact ok_store r t ho h
  · exact ok_nil r t ho h
  · exact ok_bin r t ho h
  · exact ok_unop r t ho h
  · exact ok_convert r t ho h
  · exact ok_ifc r t ho h
  · exact ok_makeFunc r t ho h
  · exact ok_makeMap r ho h
  · exact ok_makeSlice P r t ho h
  · exact ok_slice r t ho h
  · exact ok_fieldAddr r t ho h
  · exact ok_field r t ho h
  · exact ok_indexAddr r t ho h
  · exact ok_index r t ho h
  · exact ok_lookup r t ho h
  · exact ok_update r t ho h
  · exact ok_range r t ho h
  · exact ok_next r t ho h
  · exact ok_entry r t ho h
  · exact ok_assert r t ho h
  · exact ok_extract r t ho h
  · exact ok_call P r t ho h
  · exact ok_defer r t ho h
  · exact ok_panic r t ho h
end
end
end Go.Proofs.YtmikbfdpenggjaaGreatDoor.Cv
