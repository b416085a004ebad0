/- Regions whose order is open agree with the model in every order; a run of the evaluator is a run of the program. Conditions: those stated in each theorem. -/
import Derived.Test.YtmikbfdpenggjaaGreatDoorCvG
namespace Go.Proofs.YtmikbfdpenggjaaGreatDoor.Cv
open Go
noncomputable section
/-- the state of a run in another order: D is done, c writers of it, G is the canonical heap behind them -/
structure Inv (ops : Array Oper) (nx0 nt : Nat) (s0 : Sk) (rs : List Rec) (ρ0 : Rho) (h0 : Gt) (w0 : World) (D : Nat → Prop) (c : Nat) (G : Hp) (ρ : Rho) (tm : Array Value) (w : World) (Hr : Hp) : Prop where
  cl : ∀ i, D i → ∀ j ∈ preds ops.toList i, D j
  inn : ∀ i, D i → ∃ r ∈ rs, r.i = i
  cw : ∀ r ∈ rs, r.isW = true → (D r.i ↔ r.s.c < c)
  g : IsG s0 rs c G
  sz : tm.size = nt
  t1 : ∀ r ∈ rs, D r.i → ∀ t, r.o.dst = some t → RV ρ r.v (tm.getD t undef)
  t0 : ∀ t, (∀ r ∈ rs, D r.i → r.o.dst ≠ some t) → RV ρ (getU (s0.T.get t)) (tm.getD t undef)
  heap : RH ρ Hr.get Hr.nx w
  nx : Hr.nx = G.nx
  g1 : ∀ r ∈ rs, r.isA → D r.i → c ≤ r.s.c → Hr.get (nx0 + r.i) = some r.ob
  g2 : ∀ x, (∀ r ∈ rs, r.isA → D r.i → c ≤ r.s.c → x ≠ nx0 + r.i) → Hr.get x = G.get x
  no : ∀ i, i < ops.size → ¬ D i → ρ (nx0 + i) = none
  dead : ∀ r ∈ rs, r.isA → c ≤ r.s.c → ∀ o, G.get (nx0 + r.i) = some o → o.isDead = true
  big : nx0 + ops.size ≤ Hr.nx
  to : To ρ0 h0 nx0 w0 ρ Hr.get Hr.nx w
section
variable {M : Memo} {ih : Ih} {ops : Array Oper} {nx0 nt : Nat} {s0 s' : Sk} {rs pre post : List Rec} {r : Rec} {ρ0 : Rho} {h0 : Gt} {w0 : World} {D : Nat → Prop} {c : Nat} {G : Hp} {ρ : Rho} {tm : Array Value} {w : World} {Hr : Hp}
variable {b : FB} {df : List Deferred} {k : List Item} {cs : List Frame} {rest : List Nat}
theorem same_rec (gd : Good ops rs) {q : Rec} (hr : r ∈ rs) (hq : q ∈ rs) (h : r.i = q.i) : r = q := by
  have hu := gd.uniq
  clear gd
  induction rs with
  | nil => simp at hr
  | cons a l ihl =>
    rw [List.pairwise_cons] at hu
    rcases List.mem_cons.1 hr with rfl | hr' <;> rcases List.mem_cons.1 hq with rfl | hq'
    · rfl
    · exact absurd h (hu.1 q hq')
    · exact absurd h.symm (hu.1 r hr')
    · exact ihl hr' hq' hu.2
theorem pos_cases (hs : rs = pre ++ r :: post) {q : Rec} (hq : q ∈ rs) : q ∈ pre ∨ q = r ∨ q ∈ post := by
  rw [hs] at hq
  rcases List.mem_append.1 hq with h | h
  · exact .inl h
  · rcases List.mem_cons.1 h with h | h
    · exact .inr (.inl h)
    · exact .inr (.inr h)
theorem mem_split (hs : rs = pre ++ r :: post) : r ∈ rs := by rw [hs]; simp
theorem pre_mem (hs : rs = pre ++ r :: post) {q : Rec} (hq : q ∈ pre) : q ∈ rs := by rw [hs]; simp [hq]
/-- writers: the counts tell them apart, and tell where they stand -/
theorem cnt_lt (hc : Chain M ih ops nx0 nt s0 rs s') (hs : rs = pre ++ r :: post) {q : Rec} (hq : q ∈ pre) (hw : q.isW = true) : q.s.c < r.s.c := by
  subst hs
  exact (chain_c (chain_split pre hc).1 q hq).2.2 hw
theorem cnt_ge (hc : Chain M ih ops nx0 nt s0 rs s') (hs : rs = pre ++ r :: post) {q : Rec} (hq : q ∈ post) : r.s.c ≤ q.s.c ∧ (r.isW = true → r.s.c < q.s.c) := by
  subst hs
  obtain ⟨_, _, T1, _, k⟩ := chain_split pre hc
  have := (chain_c k q hq).1
  rw [next_c] at this
  refine ⟨?_, fun hw => ?_⟩
  · split at this <;> omega
  · rw [if_pos hw] at this; omega
theorem wr_uniq (hc : Chain M ih ops nx0 nt s0 rs s') {q : Rec} (hr : r ∈ rs) (hq : q ∈ rs) (h1 : r.isW = true) (h2 : q.isW = true) (h : r.s.c = q.s.c) : r = q := by
  obtain ⟨pre, post, hs⟩ := List.append_of_mem hr
  rcases pos_cases hs hq with hq | hq | hq
  · have := cnt_lt hc hs hq h2; omega
  · exact hq.symm
  · have := (cnt_ge hc hs hq).2 h1; omega
theorem isG_uniq (hc : Chain M ih ops nx0 nt s0 rs s') (h00 : s0.c = 0) {c : Nat} {G G' : Hp} (h : IsG s0 rs c G) (h' : IsG s0 rs c G') : G = G' := by
  rcases h with ⟨h1, h2⟩ | ⟨r, h1, h2, h3, h4⟩ <;> rcases h' with ⟨k1, k2⟩ | ⟨q, k1, k2, k3, k4⟩
  · rw [h2, k2]
  · omega
  · omega
  · rw [h4, k4, wr_uniq hc h1 k1 h2 k2 (by omega)]
theorem Inv.ahead (I : Inv ops nx0 nt s0 rs ρ0 h0 w0 D c G ρ tm w Hr) {i j : Nat} (hp : ∀ j ∈ preds ops.toList i, D j) {f : Nat} (h : ahead ops.toList f i j = true) : D j := ahead_closed I.cl f i j hp h
/-- an operation that is not done comes behind the last writer that is -/
theorem Inv.le (I : Inv ops nx0 nt s0 rs ρ0 h0 w0 D c G ρ tm w Hr) (gd : Good ops rs) (hc : Chain M ih ops nx0 nt s0 rs s') (h00 : s0.c = 0) (hs : rs = pre ++ r :: post) (hD : ¬ D r.i) : c ≤ r.s.c := by
  rcases I.g with ⟨h1, _⟩ | ⟨q, h1, h2, h3, _⟩
  · omega
  · rcases Nat.lt_or_ge r.s.c c with hlt | hge
    · exfalso
      have hqD : D q.i := (I.cw q h1 h2).2 (by omega)
      rcases pos_cases hs h1 with hq | hq | hq
      · have := cnt_lt hc hs hq h2; omega
      · subst hq; exact hD hqD
      · obtain ⟨p1, p2, hp⟩ := List.append_of_mem hq
        have hs2 : rs = (pre ++ r :: p1) ++ q :: p2 := by rw [hs, hp]; simp
        have ha := gd.wr _ q _ hs2 h2 r (by simp)
        exact hD (I.ahead (fun j hj => I.cl _ hqD j hj) ha)
    · exact hge
theorem Inv.eqc (I : Inv ops nx0 nt s0 rs ρ0 h0 w0 D c G ρ tm w Hr) (gd : Good ops rs) (hc : Chain M ih ops nx0 nt s0 rs s') (h00 : s0.c = 0) (hs : rs = pre ++ r :: post) (hD : ¬ D r.i) (hp : ∀ j ∈ preds ops.toList r.i, D j) (hw : r.isW = true) : c = r.s.c ∧ ∀ q ∈ pre, D q.i := by
  have hall : ∀ q ∈ pre, D q.i := fun q hq => I.ahead hp (gd.wr pre r post hs hw q hq)
  refine ⟨?_, hall⟩
  have h1 := I.le gd hc h00 hs hD
  have h2 : ¬ r.s.c < c := fun h => hD ((I.cw r (mem_split hs) hw).2 h)
  -- a writer ahead with the count before
  rcases Nat.lt_or_ge c r.s.c with hlt | hge
  · exfalso
    subst hs
    obtain ⟨j1, j2⟩ := wsOf_get h00 _ pre r.s rfl (chain_split pre hc).1
    obtain ⟨q, g1, g2, g3, _⟩ := j2 (r.s.c - 1 - c) (by omega)
    have hqc : q.s.c = c := by omega
    have := (I.cw q (by simp [g1]) g2).1 (hall q g1)
    omega
  · omega
/-- the temporaries that it looks at -/
theorem Inv.cut (I : Inv ops nx0 nt s0 rs ρ0 h0 w0 D c G ρ tm w Hr) (gd : Good ops rs) (hc : Chain M ih ops nx0 nt s0 rs s') (hs : rs = pre ++ r :: post) (hD : ¬ D r.i) (hp : ∀ j ∈ preds ops.toList r.i, D j) :
    RT ρ nt (cutT r.s.T (reads ops.toList r.o) nt) tm := by
  have hpre : Chain M ih ops nx0 nt s0 pre r.s := by subst hs; exact (chain_split pre hc).1
  have hpw : pre.Pairwise fun a b => a.i ≠ b.i := by
    have := gd.uniq; rw [hs] at this; exact (List.pairwise_append.1 this).1
  refine ⟨I.sz, fun t => ?_⟩
  rw [cutT_get]
  by_cases hm : t ∈ reads ops.toList r.o
  · rw [if_pos hm]
    show RV ρ (getU (r.s.T.get t)) _
    by_cases hex : ∃ q ∈ rs, q.o.dst = some t ∧ q.i ≠ r.i
    · obtain ⟨q, hq, hqd, hqi⟩ := hex
      rcases gd.clash r (mem_split hs) q hq (Ne.symm hqi) t hqd hm with ha | ha
      · have hqp := gd.ord pre r post hs q hq ha
        rw [chain_T hpre hqp hqd (fun q' hq' hd' => gd.dst q' (pre_mem hs hq') q hq t hd' hqd) hpw]
        exact I.t1 q hq (I.ahead hp ha) t hqd
      · have hqD : ¬ D q.i := fun h => hD (I.ahead (fun j hj => I.cl _ h j hj) ha)
        have hnp : ∀ q' ∈ pre, q'.o.dst ≠ some t := by
          intro q' hq' hd'
          have := same_rec gd (pre_mem hs hq') hq (gd.dst q' (pre_mem hs hq') q hq t hd' hqd)
          subst this
          obtain ⟨p1, p2, hpp⟩ := List.append_of_mem hq'
          have hs2 : rs = p1 ++ q' :: (p2 ++ r :: post) := by rw [hs, hpp]; simp
          have hin := gd.ord p1 q' _ hs2 r (mem_split hs) ha
          have hu := gd.uniq
          rw [hs2, List.pairwise_append] at hu
          exact hu.2.2 r hin r (by simp) rfl
        rw [chain_T0 hpre hnp]
        refine I.t0 t fun q' hq' hD' hd' => ?_
        have := gd.dst q' hq' q hq t hd' hqd
        rw [this] at hD'
        exact hqD hD'
    · have hn : ∀ q ∈ rs, q.o.dst = some t → q.i = r.i := fun q hq hd => Classical.byContradiction fun h => hex ⟨q, hq, hd, h⟩
      rw [chain_T0 hpre fun q hq hd => ?_]
      · exact I.t0 t fun q hq hD' hd => by have := hn q hq hd; rw [this] at hD'; exact hD hD'
      · have := hn q (pre_mem hs hq) hd
        have hu := gd.uniq
        rw [hs, List.pairwise_append] at hu
        exact hu.2.2 q hq r (by simp) this
  · rw [if_neg hm]
    by_cases ht : t < nt
    · rw [if_pos ht]; trivial
    · rw [if_neg ht]
      have : tm.getD t undef = undef := by
        have : ¬ t < tm.size := by rw [I.sz]; exact ht
        simp [this]
      rw [this]
      exact ⟨#[], rfl, rfl⟩
/-- the new temporaries -/
theorem Inv.temps (I : Inv ops nx0 nt s0 rs ρ0 h0 w0 D c G ρ tm w Hr) (gd : Good ops rs) (hr : r ∈ rs) (hD : ¬ D r.i) {ρ' : Rho} (hx : Ext ρ ρ') {v' : Value} (hv : RV ρ' r.v v') {T1 : Tr V} (hput : put nt r.s.T r.v r.o.dst = some T1) :
    (putT tm r.o.dst v').size = nt ∧ (∀ q ∈ rs, (D q.i ∨ q.i = r.i) → ∀ t, q.o.dst = some t → RV ρ' q.v ((putT tm r.o.dst v').getD t undef)) ∧
    (∀ t, (∀ q ∈ rs, (D q.i ∨ q.i = r.i) → q.o.dst ≠ some t) → RV ρ' (getU (s0.T.get t)) ((putT tm r.o.dst v').getD t undef)) := by
  have hsz : (putT tm r.o.dst v').size = nt := by cases hd : r.o.dst <;> simp [putT, I.sz]
  have hget : ∀ t, r.o.dst ≠ some t → (putT tm r.o.dst v').getD t undef = tm.getD t undef := by
    intro t ht
    cases hd : r.o.dst with
    | none => rfl
    | some d =>
      have : d ≠ t := fun e => ht (by rw [hd, e])
      simp [putT, Array.getElem?_setIfInBounds_ne this]
  refine ⟨hsz, ?_, ?_⟩
  · intro q hq hDq t hd
    by_cases hqi : q.i = r.i
    · have := same_rec gd hq hr hqi
      subst this
      have hlt : t < tm.size := by
        rw [hd] at hput
        simp only [put] at hput
        split at hput
        · rename_i h; rw [I.sz]; exact of_blt h
        · cases hput
      have : (putT tm q.o.dst v').getD t undef = v' := by rw [hd]; simp [putT, hlt]
      rw [this]; exact hv
    · have hne : r.o.dst ≠ some t := fun e => hqi (gd.dst q hq r hr t hd e)
      rw [hget t hne]
      exact (I.t1 q hq (hDq.resolve_right hqi) t hd).mono hx
  · intro t ht
    have hne : r.o.dst ≠ some t := ht r hr (.inr rfl)
    rw [hget t hne]
    exact (I.t0 t fun q hq hDq => ht q hq (.inl hDq)).mono hx
end
end
end Go.Proofs.YtmikbfdpenggjaaGreatDoor.Cv
namespace Go.Proofs.YtmikbfdpenggjaaGreatDoor.Cv
open Go
noncomputable section
theorem mkIs_own {op : Op} {T : Tr V} {x : Nat} {ob : O} {v : V} (h : mkIs x (mkOf op T) = some (ob, v)) : ob.own = true := by
  have hP : ∀ q : Option O, (∀ y, q = some y → y.own = true) → mkIs x (mkP q) = some (ob, v) → ob.own = true := by
    intro q hq h
    cases q with
    | none => cases h
    | some y => injection h with h; injection h with h _; rw [← h]; exact hq y rfl
  have hc : ∀ {e : TypeId} {l : Option (List V)} {y : O}, cellsO e l = some y → y.own = true := by
    intro e l y h
    obtain ⟨l', _, rfl⟩ := cellsO_some h
    rfl
  unfold mkOf at h
  split at h
  · exact hP _ (fun y hy => hc hy) h
  · exact hP _ (fun y hy => hc hy) h
  · split at h
    · unfold mkSl at h
      split at h
      · rename_i s q es eq
        injection h with h; injection h with h _; subst h
        unfold mkSliceLit at eq
        split at eq
        · exact hc eq
        · cases eq
      · cases h
    · cases h
  · cases h
theorem RecOk.own {M : Memo} {ih : Ih} {ops : Array Oper} {nx0 : Nat} {r : Rec} (h : RecOk M ih ops nx0 r) (ha : r.isA) : r.ob.own = true := by
  rcases h.does with ⟨e, _⟩ | ⟨_, e, _⟩ | ⟨_, e, _⟩ | ⟨_, _, e, _⟩ | ⟨_, e, _⟩
  · rw [ha.1] at e; cases e
  · rw [ha.2] at e; cases e
  · rw [ha.2] at e; cases e
  · exact mkIs_own e
  · rw [ha.2] at e; cases e
section
variable {M : Memo} {ih : Ih} {ops : Array Oper} {nx0 nt : Nat} {s0 s' : Sk} {rs pre post : List Rec} {r : Rec} {ρ0 : Rho} {h0 : Gt} {w0 : World} {D : Nat → Prop} {c : Nat} {G : Hp} {ρ : Rho} {tm : Array Value} {w : World} {Hr : Hp}
variable {b : FB} {df : List Deferred} {k : List Item} {cs : List Frame} {rest : List Nat}
theorem rec_ok (hc : Chain M ih ops nx0 nt s0 rs s') {q : Rec} (hq : q ∈ rs) : RecOk M ih ops nx0 q ∧ ∃ T1, put nt q.s.T q.v q.o.dst = some T1 := by
  obtain ⟨pre, post, rfl⟩ := List.append_of_mem hq
  obtain ⟨_, h, T1, h3, _⟩ := chain_split pre hc
  exact ⟨h, T1, h3⟩
theorem rec_lt (hc : Chain M ih ops nx0 nt s0 rs s') {q : Rec} (hq : q ∈ rs) : q.i < ops.size := (Array.getElem?_eq_some_iff.1 (rec_ok hc hq).1.op).1
/-- what does not touch the heap -/
theorem Inv.plain (I : Inv ops nx0 nt s0 rs ρ0 h0 w0 D c G ρ tm w Hr) (gd : Good ops rs) (hr : r ∈ rs) (hD : ¬ D r.i) (hp : ∀ j ∈ preds ops.toList r.i, D j) (hw : r.isW = false) (ha : ¬ r.isA) {w1 : World} {v' : Value}
    (h1 : RH ρ Hr.get Hr.nx w1) (h2 : To ρ Hr.get Hr.nx w ρ Hr.get Hr.nx w1) (hv : RV ρ r.v v') {T1 : Tr V} (hput : put nt r.s.T r.v r.o.dst = some T1) :
    Inv ops nx0 nt s0 rs ρ0 h0 w0 (fun j => D j ∨ j = r.i) c G ρ (putT tm r.o.dst v') w1 Hr := by
  obtain ⟨k1, k2, k3⟩ := I.temps gd hr hD (.refl ρ) hv hput
  have hw' : ∀ q ∈ rs, q.isW = true → q.i ≠ r.i := fun q hq hqw e => by
    have := same_rec gd hq hr e; subst this; rw [hw] at hqw; cases hqw
  have ha' : ∀ q ∈ rs, q.isA → q.i ≠ r.i := fun q hq hqa e => by
    have := same_rec gd hq hr e; subst this; exact ha hqa
  refine ⟨?_, ?_, ?_, I.g, k1, k2, k3, h1, I.nx, ?_, ?_, ?_, I.dead, I.big, I.to.trans h2⟩
  · rintro i (hi | rfl) j hj
    · exact .inl (I.cl i hi j hj)
    · exact .inl (hp j hj)
  · rintro i (hi | rfl)
    · exact I.inn i hi
    · exact ⟨r, hr, rfl⟩
  · intro q hq hqw
    rw [← I.cw q hq hqw]
    exact ⟨fun h => h.resolve_right (hw' q hq hqw), .inl⟩
  · intro q hq hqa hqD hqc
    exact I.g1 q hq hqa (hqD.resolve_right (ha' q hq hqa)) hqc
  · intro x hx
    exact I.g2 x fun q hq hqa hqD hqc => hx q hq hqa (.inl hqD) hqc
  · intro i hi hn
    exact I.no i hi fun h => hn (.inl h)
/-- a block is made -/
theorem Inv.alloc (I : Inv ops nx0 nt s0 rs ρ0 h0 w0 D c G ρ tm w Hr) (gd : Good ops rs) (hc : Chain M ih ops nx0 nt s0 rs s') (h00 : s0.c = 0) (hr : r ∈ rs) (hD : ¬ D r.i) (hp : ∀ j ∈ preds ops.toList r.i, D j) (ha : r.isA) {w1 : World} {v' : Value} {xo : Obj} {n : Nat}
    (hw1 : w1.heap = w.heap.push xo) (lk : Like w w1) (hro : RO ρ n r.ob (some xo)) (hv : ∀ ρ' : Rho, ρ' (nx0 + r.i) = some (w.heap.size, n) → RV ρ' r.v v') {T1 : Tr V} (hput : put nt r.s.T r.v r.o.dst = some T1) :
    Inv ops nx0 nt s0 rs ρ0 h0 w0 (fun j => D j ∨ j = r.i) c G (updR ρ (nx0 + r.i) w.heap.size n) (putT tm r.o.dst v') w1 (Hr.set (nx0 + r.i) r.ob) := by
  have hlt := rec_lt hc hr
  have hno := I.no r.i hlt hD
  have hex : Ext ρ (updR ρ (nx0 + r.i) w.heap.size n) := ext_updR hno
  obtain ⟨k1, k2, k3⟩ := I.temps gd hr hD hex (hv (updR ρ (nx0 + r.i) w.heap.size n) (by simp [updR])) hput
  have hown := (rec_ok hc hr).1.own ha
  have hxn : nx0 + r.i < Hr.nx := by have := I.big; omega
  have hH := I.heap.addRH (x := nx0 + r.i) (n := n) (o := r.ob) hno (Nat.le_refl _) hxn hown hw1 (hro.mono hex)
  rw [← get_set_fun] at hH
  have hold' : ∀ c, c < w.heap.size → w1.heap[c]? = w.heap[c]? := by
    intro c hc
    rw [hw1, Array.getElem?_push_lt hc, Array.getElem?_eq_getElem hc]
  have hnw : r.isW = false := by unfold Rec.isW; rw [ha.2]; rfl
  have hw' : ∀ q ∈ rs, q.isW = true → q.i ≠ r.i := fun q hq hqw e => by
    have := same_rec gd hq hr e; subst this; rw [hnw] at hqw; cases hqw
  refine ⟨?_, ?_, ?_, I.g, k1, k2, k3, by rw [Hp.nx_set]; exact hH, by rw [Hp.nx_set]; exact I.nx, ?_, ?_, ?_, I.dead, by rw [Hp.nx_set]; exact I.big, ?_⟩
  · rintro i (hi | rfl) j hj
    · exact .inl (I.cl i hi j hj)
    · exact .inl (hp j hj)
  · rintro i (hi | rfl)
    · exact I.inn i hi
    · exact ⟨r, hr, rfl⟩
  · intro q hq hqw
    rw [← I.cw q hq hqw]
    exact ⟨fun h => h.resolve_right (hw' q hq hqw), .inl⟩
  · intro q hq hqa hqD hqc
    rw [Hp.get_set]
    by_cases e : q.i = r.i
    · have := same_rec gd hq hr e; subst this; rw [if_pos rfl]
    · rw [if_neg (by omega)]
      exact I.g1 q hq hqa (hqD.resolve_right e) hqc
  · intro x hx
    rw [Hp.get_set]
    by_cases hcr : c ≤ r.s.c
    · rw [if_neg (hx r hr ha (.inr rfl) hcr)]
      exact I.g2 x fun q hq hqa hqD hqc => hx q hq hqa (.inl hqD) hqc
    · exfalso
      obtain ⟨pre, post, hs⟩ := List.append_of_mem hr
      exact hcr (I.le gd hc h00 hs hD)
  · intro i hi hn
    unfold updR
    rw [if_neg (fun e => hn (.inr (by omega)))]
    exact I.no i hi fun h => hn (.inl h)
  · have t := I.to
    have hsz : w1.heap.size = w.heap.size + 1 := by rw [hw1]; simp
    refine ⟨t.ext.trans hex, ?_, by rw [Hp.nx_set]; exact t.le, by have := t.size; omega, ?_, ?_, t.lk.trans lk⟩
    · intro x hx
      unfold updR
      rw [if_neg (by omega)]
      exact t.old x hx
    · rintro bb ⟨y, p, m, hy, hpo, e⟩
      rw [Hp.get_set] at hy
      unfold updR at e
      by_cases hyx : y = nx0 + r.i
      · rw [if_pos hyx] at e
        injection e with e; injection e with e _
        right; have := t.size; omega
      · rw [if_neg hyx] at e hy
        exact t.im bb ⟨y, p, m, hy, hpo, e⟩
    · intro bb hb hn
      rw [hold' bb (Nat.lt_of_lt_of_le hb t.size), t.keep bb hb hn]
/-- the canonical heap is part of the heap -/
theorem Inv.sub (I : Inv ops nx0 nt s0 rs ρ0 h0 w0 D c G ρ tm w Hr) (hc : Chain M ih ops nx0 nt s0 rs s') (h00 : s0.c = 0) (hH : s0.H = s0.Hs) (hs : rs = pre ++ r :: post) (hcr : c = r.s.c) {x : Nat} {ob : O} (hg : r.s.H.get x = some ob) (hal : ob.isDead = false)
    (hdom : (∃ p, ρ x = some p) ∨ ∀ q ∈ pre, D q.i) : Hr.get x = some ob := by
  have hpre : Chain M ih ops nx0 nt s0 pre r.s := by subst hs; exact (chain_split pre hc).1
  rcases chain_H hpre x with ⟨q, hq, hqa, hqc, hqx, hqo⟩ | ⟨hno, hget⟩
  · have hqD : D q.i := by
      rcases hdom with ⟨p, hp⟩ | h
      · exact Classical.byContradiction fun h => by rw [hqx, I.no q.i (rec_lt hc (pre_mem hs hq)) h] at hp; cases hp
      · exact h q hq
    rw [hqo] at hg
    rw [hqx, I.g1 q (pre_mem hs hq) hqa hqD (by omega)]
    exact hg
  · have hG : r.s.Hs = G := isG_uniq hc h00 ((chain_G hpre).1.mono fun q hq => pre_mem hs hq) (by rw [← hcr]; exact I.g)
    have hx : r.s.H.get x = G.get x := by
      rw [hget]
      by_cases e : r.s.c = s0.c
      · rw [if_pos e, hH, ← chain_Hs hpre e, hG]
      · rw [if_neg e, hG]
    rw [hx] at hg
    rw [I.g2 x fun q hq hqa hqD hqc e => ?_]
    · exact hg
    · subst e
      rw [I.dead q hq hqa hqc ob hg] at hal
      cases hal
/-- .. and before the canonical place of the operation -/
theorem Inv.subG (I : Inv ops nx0 nt s0 rs ρ0 h0 w0 D c G ρ tm w Hr) {x : Nat} {ob : O} (hg : G.get x = some ob) (hal : ob.isDead = false) : Hr.get x = some ob := by
  rw [I.g2 x fun q hq hqa hqD hqc e => ?_]
  · exact hg
  · subst e
    rw [I.dead q hq hqa hqc ob hg] at hal
    cases hal
end
end
end Go.Proofs.YtmikbfdpenggjaaGreatDoor.Cv
namespace Go.Proofs.YtmikbfdpenggjaaGreatDoor.Cv
open Go
noncomputable section
def addL (nx0 : Nat) (l : List Rec) (H : Hp) : Hp := l.foldl (fun H q => H.set (nx0 + q.i) q.ob) H
theorem addL_nx {nx0 : Nat} : ∀ (l : List Rec) (H : Hp), (addL nx0 l H).nx = H.nx
  | [], _ => rfl
  | q :: l, H => by show (addL nx0 l (H.set (nx0 + q.i) q.ob)).nx = _; rw [addL_nx l, Hp.nx_set]
theorem addL_get {nx0 : Nat} : ∀ (l : List Rec) (H : Hp) (x : Nat), (∃ q ∈ l, x = nx0 + q.i ∧ (addL nx0 l H).get x = some q.ob) ∨ ((∀ q ∈ l, x ≠ nx0 + q.i) ∧ (addL nx0 l H).get x = H.get x)
  | [], H, x => .inr ⟨fun q hq => by simp at hq, rfl⟩
  | q :: l, H, x => by
    show (∃ p ∈ q :: l, x = nx0 + p.i ∧ (addL nx0 l (H.set (nx0 + q.i) q.ob)).get x = some p.ob) ∨ ((∀ p ∈ q :: l, x ≠ nx0 + p.i) ∧ (addL nx0 l (H.set (nx0 + q.i) q.ob)).get x = H.get x)
    rcases addL_get l (H.set (nx0 + q.i) q.ob) x with ⟨p, h1, h2, h3⟩ | ⟨h1, h2⟩
    · exact .inl ⟨p, by simp [h1], h2, h3⟩
    · rw [h2, Hp.get_set]
      by_cases e : x = nx0 + q.i
      · left; exact ⟨q, by simp, e, by rw [if_pos e]⟩
      · right
        rw [if_neg e]
        refine ⟨fun p hp => ?_, rfl⟩
        rcases List.mem_cons.1 hp with rfl | hp
        · exact e
        · exact h1 p hp
section
variable {M : Memo} {ih : Ih} {ops : Array Oper} {nx0 nt : Nat} {s0 s' : Sk} {rs pre post : List Rec} {r : Rec} {ρ0 : Rho} {h0 : Gt} {w0 : World} {D : Nat → Prop} {c : Nat} {G : Hp} {ρ : Rho} {tm : Array Value} {w : World} {Hr : Hp}
variable {b : FB} {df : List Deferred} {k : List Item} {cs : List Frame} {rest : List Nat}
/-- the heap on which a writer works -/
theorem Inv.forWr (I : Inv ops nx0 nt s0 rs ρ0 h0 w0 D c G ρ tm w Hr) (hc : Chain M ih ops nx0 nt s0 rs s') (h00 : s0.c = 0) (hH : s0.H = s0.Hs) {sp : Sk} {pre : List Rec} (hpre : Chain M ih ops nx0 nt s0 pre sp) (hsub : ∀ q ∈ pre, q ∈ rs) (hcr : c = sp.c) (hall : ∀ q ∈ pre, D q.i) :
    sp.Hs = G ∧ sp.H.nx = Hr.nx ∧ (∀ x ob, sp.H.get x = some ob → ob.isDead = false → Hr.get x = some ob) ∧ RH ρ sp.H.get sp.H.nx w := by
  have hG : sp.Hs = G := isG_uniq hc h00 ((chain_G hpre).1.mono hsub) (by rw [← hcr]; exact I.g)
  have hnx : sp.H.nx = Hr.nx := by rw [chain_nx hpre (by rw [hH]), hG, I.nx]
  have hsb : ∀ x ob, sp.H.get x = some ob → ob.isDead = false → Hr.get x = some ob := by
    intro x ob hg hal
    rcases chain_H hpre x with ⟨q, hq, hqa, hqc, hqx, hqo⟩ | ⟨hno, hget⟩
    · rw [hqo] at hg
      rw [hqx, I.g1 q (hsub q hq) hqa (hall q hq) (by omega)]
      exact hg
    · have hx : sp.H.get x = G.get x := by
        rw [hget]
        by_cases e : sp.c = s0.c
        · rw [if_pos e, hH, ← chain_Hs hpre e, hG]
        · rw [if_neg e, hG]
      rw [hx] at hg
      exact I.subG hg hal
  exact ⟨hG, hnx, hsb, by rw [hnx]; exact I.heap.less hsb⟩
/-- a writer has written -/
theorem Inv.writer (I : Inv ops nx0 nt s0 rs ρ0 h0 w0 D c G ρ tm w Hr) (gd : Good ops rs) (hc : Chain M ih ops nx0 nt s0 rs s') (h00 : s0.c = 0) (hH : s0.H = s0.Hs) (hng : ng ≤ nx0) (hs : rs = pre ++ r :: post) (hD : ¬ D r.i) (hp : ∀ j ∈ preds ops.toList r.i, D j) (hw : r.isW = true)
    {ρ' : Rho} {w' : World} {v' : Value} (h1 : RH ρ' r.H'.get r.H'.nx w') (h2 : To ρ r.s.H.get r.s.H.nx w ρ' r.H'.get r.H'.nx w') (hv : RV ρ' r.v v') {T1 : Tr V} (hput : put nt r.s.T r.v r.o.dst = some T1) :
    ∃ Hr', Inv ops nx0 nt s0 rs ρ0 h0 w0 (fun j => D j ∨ j = r.i) (c + 1) r.H' ρ' (putT tm r.o.dst v') w' Hr' := by
  have hr := mem_split hs
  obtain ⟨hcc, hall⟩ := I.eqc gd hc h00 hs hD hp hw
  have hpre : Chain M ih ops nx0 nt s0 pre r.s := by subst hs; exact (chain_split pre hc).1
  obtain ⟨hG, hnx, hsb, hRH⟩ := I.forWr hc h00 hH hpre (fun q hq => pre_mem hs hq) hcc hall
  have hna : ¬ r.isA := fun ha => by unfold Rec.isW at hw; rw [ha.2] at hw; cases hw
  obtain ⟨k1, k2, k3⟩ := I.temps gd hr hD h2.ext hv hput
  open Classical in
  let es := rs.filter fun q => decide (q.isA ∧ D q.i ∧ c + 1 ≤ q.s.c)
  have hes : ∀ q, q ∈ es ↔ q ∈ rs ∧ q.isA ∧ D q.i ∧ c + 1 ≤ q.s.c := by
    intro q; simp only [es, List.mem_filter, decide_eq_true_eq]
  -- an early block is no block of the canonical heap
  have early_ne : ∀ q ∈ es, ∀ bb n, ρ (nx0 + q.i) = some (bb, n) → ¬ Im ρ r.s.H.get bb := by
    rintro q hq bb n hb ⟨y, o, m, hy, ho, hyb⟩
    obtain ⟨q1, q2, q3, q4⟩ := (hes q).1 hq
    have hx := I.g1 q q1 q2 q3 (by omega)
    have hown := (rec_ok hc q1).1.own q2
    have hyr := hsb y o hy (O.own_alive ho)
    have := I.heap.inj y (nx0 + q.i) o q.ob bb m n hyr hx ho hown hyb hb
    subst this
    rcases chain_H hpre (nx0 + q.i) with ⟨p, hp1, hp2, hp3, hp4, hp5⟩ | ⟨_, hget⟩
    · have : p = q := same_rec gd (pre_mem hs hp1) q1 (by omega)
      subst this
      have := (chain_c hpre p hp1).2.1
      omega
    · have hxg : r.s.H.get (nx0 + q.i) = G.get (nx0 + q.i) := by
        rw [hget]
        by_cases e : r.s.c = s0.c
        · rw [if_pos e, hH, ← chain_Hs hpre e, hG]
        · rw [if_neg e, hG]
      rw [hxg] at hy
      have := I.dead q q1 q2 (by omega) o hy
      rw [O.own_alive ho] at this
      cases this
  have hnx1 : nx0 + ops.size ≤ r.s.H.nx := by rw [hnx]; exact I.big
  have early_old : ∀ q ∈ rs, ρ' (nx0 + q.i) = ρ (nx0 + q.i) := fun q hq => h2.old _ (by have := rec_lt hc hq; omega)
  refine ⟨addL nx0 es r.H', ?_⟩
  have hget : ∀ x, (∃ q ∈ es, x = nx0 + q.i ∧ (addL nx0 es r.H').get x = some q.ob) ∨ ((∀ q ∈ es, x ≠ nx0 + q.i) ∧ (addL nx0 es r.H').get x = r.H'.get x) := addL_get es r.H'
  have hRH' : RH ρ' (addL nx0 es r.H').get (addL nx0 es r.H').nx w' := by
    rw [addL_nx]
    refine ⟨?_, ?_, ?_, ?_, h1.fresh, h1.lt, h1.glob⟩
    · intro x o hx hd
      rcases hget x with ⟨q, q1, q2, q3⟩ | ⟨_, q3⟩
      · rw [q3] at hx
        injection hx with hx; subst hx
        obtain ⟨m1, m2, m3, m4⟩ := (hes q).1 q1
        obtain ⟨bb, n, e1, e2⟩ := I.heap.obj (nx0 + q.i) q.ob (I.g1 q m1 m2 m3 (by omega)) hd
        refine ⟨bb, n, by rw [q2, early_old q m1]; exact e1, ?_⟩
        rw [h2.keep bb (I.heap.lt _ _ _ e1) (early_ne q q1 bb n e1)]
        exact e2.mono h2.ext
      · rw [q3] at hx
        exact h1.obj x o hx hd
    · intro x y o o' bb n m hx hy ho ho' hxb hyb
      have mixed : ∀ q ∈ es, ∀ n, ρ' (nx0 + q.i) = some (bb, n) → ∀ y o m, r.H'.get y = some o → o.own = true → ρ' y = some (bb, m) → False := by
        intro q q1 n hqb y o m hy ho hyb
        obtain ⟨m1, m2, m3, m4⟩ := (hes q).1 q1
        rw [early_old q m1] at hqb
        rcases h2.im bb ⟨y, o, m, hy, ho, hyb⟩ with h | h
        · exact early_ne q q1 bb n hqb h
        · have := I.heap.lt _ _ _ hqb; omega
      rcases hget x with ⟨q, q1, q2, q3⟩ | ⟨_, q3⟩ <;> rcases hget y with ⟨p, p1, p2, p3⟩ | ⟨_, p3⟩
      · rw [q3] at hx; rw [p3] at hy
        injection hx with hx; injection hy with hy
        subst hx hy
        obtain ⟨m1, m2, m3, m4⟩ := (hes q).1 q1
        obtain ⟨l1, l2, l3, l4⟩ := (hes p).1 p1
        rw [q2, early_old q m1] at hxb
        rw [p2, early_old p l1] at hyb
        rw [q2, p2]
        exact I.heap.inj _ _ q.ob p.ob bb n m (I.g1 q m1 m2 m3 (by omega)) (I.g1 p l1 l2 l3 (by omega)) ho ho' hxb hyb
      · rw [q2] at hxb; rw [p3] at hy
        exact (mixed q q1 n hxb y o' m hy ho' hyb).elim
      · rw [p2] at hyb; rw [q3] at hx
        exact (mixed p p1 m hyb x o n hx ho hxb).elim
      · rw [q3] at hx; rw [p3] at hy
        exact h1.inj x y o o' bb n m hx hy ho ho' hxb hyb
    · intro x o hx hd hn
      rcases hget x with ⟨q, q1, q2, q3⟩ | ⟨_, q3⟩
      · rw [q3] at hx
        injection hx with hx; subst hx
        obtain ⟨m1, m2, _, _⟩ := (hes q).1 q1
        rw [(rec_ok hc m1).1.own m2] at hn; cases hn
      · rw [q3] at hx; exact h1.kng x o hx hd hn
    · intro x o bb n hx ho hb
      rcases hget x with ⟨q, q1, q2, q3⟩ | ⟨_, q3⟩
      · rw [q3] at hx
        injection hx with hx; subst hx
        obtain ⟨m1, m2, m3, m4⟩ := (hes q).1 q1
        rw [q2, early_old q m1] at hb
        exact I.heap.big _ q.ob bb n (I.g1 q m1 m2 m3 (by omega)) ho hb
      · rw [q3] at hx; exact h1.big x o bb n hx ho hb
  refine ⟨?_, ?_, ?_, .inr ⟨r, hr, hw, by omega, rfl⟩, k1, k2, k3, hRH', addL_nx _ _, ?_, ?_, ?_, ?_, ?_, ?_⟩
  · rintro i (hi | rfl) j hj
    · exact .inl (I.cl i hi j hj)
    · exact .inl (hp j hj)
  · rintro i (hi | rfl)
    · exact I.inn i hi
    · exact ⟨r, hr, rfl⟩
  · intro q hq hqw
    by_cases e : q.i = r.i
    · have := same_rec gd hq hr e; subst this
      exact ⟨fun _ => by omega, fun _ => .inr rfl⟩
    · have hne : q.s.c ≠ c := fun h => e (by rw [wr_uniq hc hq hr hqw hw (by omega)])
      constructor
      · rintro (h | h)
        · have := (I.cw q hq hqw).1 h; omega
        · exact absurd h e
      · intro h; exact .inl ((I.cw q hq hqw).2 (by omega))
  · intro q hq hqa hqD hqc
    have hqr : q.i ≠ r.i := fun e => by have := same_rec gd hq hr e; subst this; exact hna hqa
    have hqe : q ∈ es := (hes q).2 ⟨hq, hqa, hqD.resolve_right hqr, hqc⟩
    rcases hget (nx0 + q.i) with ⟨p, p1, p2, p3⟩ | ⟨h, _⟩
    · have : p = q := same_rec gd ((hes p).1 p1).1 hq (by omega)
      subst this; exact p3
    · exact absurd rfl (h q hqe)
  · intro x hx
    rcases hget x with ⟨p, p1, p2, p3⟩ | ⟨_, h⟩
    · obtain ⟨m1, m2, m3, m4⟩ := (hes p).1 p1
      exact absurd p2 (hx p m1 m2 (.inl m3) m4)
    · exact h
  · intro i hi hn
    rw [h2.old _ (by omega)]
    exact I.no i hi fun h => hn (.inl h)
  · intro q hq hqa hqc o ho
    cases hd : o.isDead with
    | true => rfl
    | false =>
      exfalso
      obtain ⟨bb, n, e1, _⟩ := h1.obj _ o ho hd
      have e2 := e1
      rw [early_old q hq] at e2
      by_cases hqD : D q.i
      · have hqe : q ∈ es := (hes q).2 ⟨hq, hqa, hqD, hqc⟩
        cases how : o.own with
        | true =>
          rcases h2.im bb ⟨_, o, n, ho, how, e1⟩ with h | h
          · exact early_ne q hqe bb n e2 h
          · have := I.heap.lt _ _ _ e2; omega
        | false =>
          have := h1.kng _ o ho hd how
          omega
      · rw [I.no q.i (rec_lt hc hq) hqD] at e2; cases e2
  · rw [addL_nx]; have := h2.le; omega
  · have t := I.to
    refine ⟨t.ext.trans h2.ext, ?_, ?_, Nat.le_trans t.size h2.size, ?_, ?_, t.lk.trans h2.lk⟩
    · intro x hx
      rw [h2.old x (by omega)]
      exact t.old x hx
    · rw [addL_nx]; have := t.le; have := h2.le; omega
    · rintro bb ⟨y, p, m, hy, hpo, e⟩
      rcases hget y with ⟨q, q1, q2, q3⟩ | ⟨_, q3⟩
      · rw [q3] at hy
        injection hy with hy; subst hy
        obtain ⟨m1, m2, m3, m4⟩ := (hes q).1 q1
        rw [q2, early_old q m1] at e
        exact t.im bb ⟨_, _, m, I.g1 q m1 m2 m3 (by omega), hpo, e⟩
      · rw [q3] at hy
        rcases h2.im bb ⟨y, p, m, hy, hpo, e⟩ with ⟨y2, p2, m2, j1, j2, j3⟩ | h
        · exact t.im bb ⟨y2, p2, m2, hsb y2 p2 j1 (O.own_alive j2), j2, j3⟩
        · exact .inr (Nat.le_trans t.size h)
    · intro bb hb hn
      rw [h2.keep bb (Nat.lt_of_lt_of_le hb t.size) ?_, t.keep bb hb hn]
      rintro ⟨y2, p2, m2, j1, j2, j3⟩
      rcases t.im bb ⟨y2, p2, m2, hsb y2 p2 j1 (O.own_alive j2), j2, j3⟩ with h | h
      · exact hn h
      · omega
theorem wrGives_cut {T T' : Tr V} {op : Op} {H H' : Hp} {e : E} (h : ∀ x ∈ op.operands, ev T' x = ev T x) (hg : wrGives M ih op T H e H') : wrGives M ih op T' H e H' := by
  unfold wrGives at *
  rw [opF_congr op H h]
  exact hg
/-- one operation of the region, in its turn -/
theorem Inv.step (P : PgOk) (hN : SimN (callF M ih · · none)) (hY : SimY ih) (I : Inv ops nx0 nt s0 rs ρ0 h0 w0 D c G ρ tm w Hr) (gd : Good ops rs) (hc : Chain M ih ops nx0 nt s0 rs s') (h00 : s0.c = 0) (hH : s0.H = s0.Hs) (hng : ng ≤ nx0) (hs : rs = pre ++ r :: post) (hD : ¬ D r.i) (hp : ∀ j ∈ preds ops.toList r.i, D j) :
    ∃ c' G' ρ' tm' w' Hr', Inv ops nx0 nt s0 rs ρ0 h0 w0 (fun j => D j ∨ j = r.i) c' G' ρ' tm' w' Hr' ∧ Steps Pg (lone (mkF b tm df (.inRegion ops (r.i :: rest) :: k) .run) cs w) (lone (mkF b tm' df (.inRegion ops rest :: k) .run) cs w') := by
  have hr := mem_split hs
  obtain ⟨hok, T1, hput⟩ := rec_ok hc hr
  have hcut := I.cut gd hc hs hD hp
  have hev : ∀ x ∈ r.o.op.operands, ev (cutT r.s.T (reads ops.toList r.o) nt) x = ev r.s.T x := cut_ev
  have hwant : wantedA ops (cutT r.s.T (reads ops.toList r.o) nt) r.o.guard = some r.on := by rw [cut_want]; exact hok.want
  have hwd := wanted_ok hcut hwant
  have hndef : ∀ {q : R}, opF r.o.op (cutT r.s.T (reads ops.toList r.o) nt) Hr = some q → (∀ d, q ≠ .dfr d) → ∀ c, r.o.op ≠ .defer c := by
    intro q hq hd c hcd
    rw [hcd] at hq
    have hq : opDefer c _ = some q := hq
    unfold opDefer at hq
    split at hq
    · split at hq
      · split at hq
        · unfold dfTo at hq
          split at hq
          · injection hq with hq; exact hd _ hq.symm
          · cases hq
        · cases hq
      · cases hq
    · cases hq
  have pureStep : kd r.o.op = .pure ∨ kd r.o.op = .rd → r.on = true → opF r.o.op (cutT r.s.T (reads ops.toList r.o) nt) Hr = some (.v r.v) → ∃ c' G' ρ' tm' w' Hr', Inv ops nx0 nt s0 rs ρ0 h0 w0 (fun j => D j ∨ j = r.i) c' G' ρ' tm' w' Hr' ∧ Steps Pg (lone (mkF b tm df (.inRegion ops (r.i :: rest) :: k) .run) cs w) (lone (mkF b tm' df (.inRegion ops rest :: k) .run) cs w') := by
    intro hk hon hop
    rw [hon] at hwd
    obtain ⟨nv, v', w', j1, j2, j3, j4, j5⟩ := opF_ok P I.heap hcut hop
    have hnw : r.isW = false := by unfold Rec.isW; rcases hk with hk | hk <;> rw [hk] <;> rfl
    have hna : ¬ r.isA := fun ha => by rcases hk with hk | hk <;> rw [ha.2] at hk <;> cases hk
    exact ⟨c, G, ρ, _, w', Hr, I.plain gd hr hD hp hnw hna j4 j5 j3 hput, step_nv hok.op hwd (.inr (hndef hop (by simp))) j2 j1⟩
  rcases hok.does with ⟨hon, hv, hH'⟩ | ⟨hon, hk, hop, _⟩ | ⟨hon, hk, hop, hsi, _⟩ | ⟨hon, hk, hm, _⟩ | ⟨hon, hk, hg⟩
  · -- not wanted
    rw [hon] at hwd
    have hst := step_skipped (b := b) (df := df) (k := k) (cs := cs) (w := w) (rest := rest) hok.op hwd
    have hva : RV ρ r.v undef := by rw [hv]; exact ⟨#[], rfl, rfl⟩
    cases hw : r.isW with
    | false =>
      exact ⟨c, G, ρ, _, w, Hr, I.plain gd hr hD hp hw (fun ha => by rw [ha.1] at hon; cases hon) I.heap (.refl ..) hva hput, hst⟩
    | true =>
      obtain ⟨hcc, hall⟩ := I.eqc gd hc h00 hs hD hp hw
      have hpre : Chain M ih ops nx0 nt s0 pre r.s := by subst hs; exact (chain_split pre hc).1
      obtain ⟨_, _, _, hRH⟩ := I.forWr hc h00 hH hpre (fun q hq => pre_mem hs hq) hcc hall
      obtain ⟨Hr', I'⟩ := I.writer gd hc h00 hH hng hs hD hp hw (ρ' := ρ) (w' := w) (by rw [hH']; exact hRH) (by rw [hH']; exact .refl ..) hva hput
      exact ⟨_, _, _, _, _, Hr', I', hst⟩
  · refine pureStep (.inl hk) hon ?_
    rw [pure_heap r.o.op hk (H' := r.s.H), opF_congr r.o.op r.s.H hev]
    exact hop
  · refine pureStep (.inr hk) hon ?_
    have hle := I.le gd hc h00 hs hD
    have hpre : Chain M ih ops nx0 nt s0 pre r.s := by subst hs; exact (chain_split pre hc).1
    rcases Nat.lt_or_ge c r.s.c with hlt | hge
    · -- ahead of its canonical place
      obtain ⟨ws2, hws, hw⟩ := gd.loose pre r post hs
      obtain ⟨l1, l2⟩ := wsOf_get h00 _ pre r.s rfl hpre
      have hlo : ws2.length + (r.s.c - c) ≤ r.w := by
        rw [hw]
        refine loose_ge _ _ (by simp [l1]) fun x hx => ?_
        cases hax : Cv.ahead ops.toList ops.toList.length r.i x with
        | false => rfl
        | true =>
          exfalso
          have hxD := I.ahead hp hax
          rw [List.take_append] at hx
          rcases List.mem_append.1 hx with hx | hx
          · obtain ⟨q, q1, q2⟩ := I.inn x hxD
            exact hws x (List.mem_of_mem_take hx) q q1 q2
          · obtain ⟨j, hj, hjx⟩ := List.getElem_of_mem hx
            have hj' : j < r.s.c - c := by simp [l1] at hj; omega
            obtain ⟨q, g1, g2, g3, g4⟩ := l2 j (by omega)
            have hxq : x = q.i := by
              rw [List.getElem_take] at hjx
              have := List.getElem?_eq_getElem (l := wsOf pre) (i := j) (by rw [l1]; omega)
              rw [g4] at this
              injection this with this
              rw [← hjx, this]
            have := (I.cw q (pre_mem hs g1) g2).1 (by rw [← hxq]; exact hxD)
            omega
      obtain ⟨_, k2, _⟩ := chain_G hpre
      obtain ⟨G', g1, g2⟩ := k2 (r.s.c - 1 - c) (by omega)
      have hGG : G' = G := isG_uniq hc h00 (g2.mono fun q hq => pre_mem hs hq) (by rw [show r.s.c - 1 - (r.s.c - 1 - c) = c by omega]; exact I.g)
      subst hGG
      have hopG := sameIn_at r.w r.s.hs hsi (r.s.c - 1 - c) G' (by omega) g1
      rw [← opF_congr r.o.op G' hev] at hopG
      rw [rd_heap r.o.op hk (H' := G') fun x hx => ?_]
      · exact hopG
      · obtain ⟨ob, o1, o2⟩ := rd_alive hk hx hopG
        rw [o1, I.subG o1 o2]
    · -- in its place
      have hcc : c = r.s.c := by omega
      rw [← opF_congr r.o.op r.s.H hev] at hop
      rw [rd_heap r.o.op hk (H' := r.s.H) fun x hx => ?_]
      · exact hop
      · obtain ⟨ob, o1, o2⟩ := rd_alive hk hx hop
        rw [o1, I.sub hc h00 hH hs hcc o1 o2 (.inl (rd_dom I.heap.glob hcut hx))]
  · -- a block is made
    rw [hon] at hwd
    rw [← mkOf_congr r.o.op hev] at hm
    obtain ⟨xo, n, v', w', j1, j2, lk, j3, j4, j5⟩ := al_ok (w := w) P I.heap.glob hcut hk hm
    have hnd : ∀ c, r.o.op ≠ .defer c := fun c hcd => by rw [hcd] at hk; cases hk
    exact ⟨c, G, _, _, w', _, I.alloc gd hc h00 hr hD hp ⟨hon, hk⟩ j2 lk j3 j5 hput, step_nv hok.op hwd (.inr hnd) (.inl rfl) j1⟩
  · -- a writer
    rw [hon] at hwd
    have hw : r.isW = true := by unfold Rec.isW; rw [hk]; rfl
    obtain ⟨hcc, hall⟩ := I.eqc gd hc h00 hs hD hp hw
    have hpre : Chain M ih ops nx0 nt s0 pre r.s := by subst hs; exact (chain_split pre hc).1
    obtain ⟨_, _, _, hRH⟩ := I.forWr hc h00 hH hpre (fun q hq => pre_mem hs hq) hcc hall
    obtain ⟨ρ', w', j1, j2, v', j3, j4⟩ := sim_wr (b := b) (df := df) (k := k) (cs := cs) (rest := rest) P hN hY hok.op hwd hRH hcut (wrGives_cut hev hg)
    obtain ⟨Hr', I'⟩ := I.writer gd hc h00 hH hng hs hD hp hw j1 j2 j3 hput
    exact ⟨_, _, _, _, _, Hr', I', j4⟩
end
end
end Go.Proofs.YtmikbfdpenggjaaGreatDoor.Cv
namespace Go.Proofs.YtmikbfdpenggjaaGreatDoor.Cv
open Go
noncomputable section
/-! what the plan says of its order -/
theorem nodupN_iff : ∀ {l : List Nat}, nodupN l = true → l.Pairwise (· ≠ ·)
  | [], _ => .nil
  | x :: r, h => by
    unfold nodupN at h
    split at h
    · cases h
    · rename_i hx
      refine .cons (fun y hy e => ?_) (nodupN_iff h)
      subst e
      rw [hasN_mem.2 hy] at hx
      cases hx
theorem dstL_mem {t : Nat} : ∀ {l : List Oper}, t ∈ dstL l ↔ ∃ o ∈ l, o.dst = some t
  | [] => by simp [dstL]
  | o :: r => by
    unfold dstL
    cases h : o.dst with
    | none => simp [h, dstL_mem (l := r)]
    | some u =>
      simp [h, dstL_mem (l := r)]
      constructor
      · rintro (h | h)
        · exact .inl h.symm
        · exact .inr h
      · rintro (h | h)
        · exact .inl h.symm
        · exact .inr h
theorem dst_uniq {t : Nat} : ∀ {l : List Oper} {i j : Nat} {a b : Oper}, (dstL l).Pairwise (· ≠ ·) → l[i]? = some a → l[j]? = some b → a.dst = some t → b.dst = some t → i = j
  | [], i, j, a, b, _, h, _, _, _ => by simp at h
  | o :: r, i, j, a, b, hp, ha, hb, hda, hdb => by
    have hp' : (dstL r).Pairwise (· ≠ ·) := by
      unfold dstL at hp
      split at hp
      · exact (List.pairwise_cons.1 hp).2
      · exact hp
    have hz : ∀ {c : Oper} {k : Nat}, o.dst = some t → r[k]? = some c → c.dst = some t → False := by
      intro c k ho hc hdc
      unfold dstL at hp
      rw [ho] at hp
      exact (List.pairwise_cons.1 hp).1 t (dstL_mem.2 ⟨c, List.mem_of_getElem? hc, hdc⟩) rfl
    cases i with
    | zero =>
      simp at ha; subst ha
      cases j with
      | zero => rfl
      | succ j => exact (hz hda (by simpa using hb) hdb).elim
    | succ i =>
      cases j with
      | zero => simp at hb; subst hb; exact (hz hdb (by simpa using ha) hda).elim
      | succ j => exact congrArg Nat.succ (dst_uniq (i := i) (j := j) hp' (by simpa using ha) (by simpa using hb) hda hdb)
theorem upTo_mem {n i : Nat} : i ∈ upTo n ↔ i < n := by
  induction n with
  | zero => simp [upTo]
  | succ n ih => simp [upTo, ih]; omega
theorem extOk_at {ops : List Oper} : ∀ {l done : List Nat}, extOk ops l done = true → ∀ pre i post, l = pre ++ i :: post → ∀ j ∈ preds ops i, j ∈ done ∨ j ∈ pre
  | [], done, _, pre, i, post, h => by simp at h
  | x :: r, done, h, pre, i, post, hs => by
    unfold extOk at h
    split at h
    · rename_i hx
      intro j hj
      cases pre with
      | nil => simp at hs; rw [← hs.1] at hj; exact .inl (hasN_mem.1 (allL_iff.1 hx j hj))
      | cons p pre =>
        simp at hs
        rcases extOk_at h pre i post hs.2 j hj with h' | h'
        · rcases List.mem_cons.1 h' with h' | h'
          · right; rw [← hs.1, h']; simp
          · exact .inl h'
        · right; simp [h']
    · cases h
theorem lazyOk_at {ops : List Oper} {n : Nat} : ∀ {l done : List Nat}, lazyOk ops n l done = true → ∀ pre i post, l = pre ++ i :: post → wrAt ops i = true → ∀ j, (j ∈ done ∨ j ∈ pre) → ahead ops n i j = true
  | [], done, _, pre, i, post, h => by simp at h
  | x :: r, done, h, pre, i, post, hs => by
    intro hw j hj
    cases pre with
    | nil =>
      simp at hs
      obtain ⟨rfl, _⟩ := hs
      unfold lazyOk at h
      rw [hw] at h
      simp only at h
      split at h
      · rename_i ha
        rcases hj with hj | hj
        · exact allL_iff.1 ha j hj
        · simp at hj
      · cases h
    | cons p pre =>
      simp at hs
      obtain ⟨rfl, hs⟩ := hs
      have h' : lazyOk ops n r (x :: done) = true := by
        unfold lazyOk at h
        split at h
        · exact h
        · split at h
          · exact h
          · cases h
      refine lazyOk_at h' pre i post hs hw j ?_
      rcases hj with hj | hj
      · left; simp [hj]
      · rcases List.mem_cons.1 hj with hj | hj
        · left; simp [hj]
        · right; exact hj
/-- facts on the order -/
structure Ord (ops : Array Oper) (l : List Nat) : Prop where
  nd : l.Pairwise (· ≠ ·)
  all : ∀ i, i ∈ l ↔ i < ops.size
  pr : ∀ pre i post, l = pre ++ i :: post → ∀ j ∈ preds ops.toList i, j ∈ pre
  wr : ∀ pre i post, l = pre ++ i :: post → wrAt ops.toList i = true → ∀ j ∈ pre, ahead ops.toList ops.toList.length i j = true
  ap : ∀ i j, i < ops.size → j < ops.size → apartOk ops.toList ops.toList.length i j = true
  dst : (dstL ops.toList).Pairwise (· ≠ ·)
theorem ord_of {ops : Array Oper} {l : List Nat} (h : planOk ops.toList ops.toList.length l = true) : Ord ops l := by
  unfold planOk at h
  obtain ⟨h1, h2⟩ := both_true h
  obtain ⟨h3, h4⟩ := both_true h1
  obtain ⟨h5, h6⟩ := both_true h2
  obtain ⟨h7, h8⟩ := both_true h3
  obtain ⟨h9, h10⟩ := both_true h4
  obtain ⟨h11, h12⟩ := both_true h5
  refine ⟨nodupN_iff h10, fun i => ⟨fun hi => ?_, fun hi => ?_⟩, fun pre i post hs j hj => ?_, fun pre i post hs hw j hj => lazyOk_at h12 pre i post hs hw j (.inr hj), fun i j hi hj => ?_, nodupN_iff h7⟩
  · have := of_blt (allL_iff.1 h9 i hi); simpa using this
  · exact hasN_mem.1 (allL_iff.1 h8 i (upTo_mem.2 (by simpa using hi)))
  · rcases extOk_at h11 pre i post hs j hj with h | h
    · simp at h
    · exact h
  · exact allL_iff.1 (allL_iff.1 h6 i (upTo_mem.2 (by simpa using hi))) j (upTo_mem.2 (by simpa using hj))
section
variable {ops : Array Oper} {l : List Nat}
theorem Ord.before (O : Ord ops l) : ∀ (f : Nat) (pre : List Nat) (i : Nat) (post : List Nat), l = pre ++ i :: post → ∀ j, ahead ops.toList f i j = true → j ∈ pre
  | 0, _, _, _, _, _, h => by cases h
  | f + 1, pre, i, post, hs, j, h => by
    unfold ahead at h
    obtain ⟨k, hk, h⟩ := anyL_iff.1 h
    have hkp := O.pr pre i post hs k hk
    split at h
    · rename_i e; have e := of_beq e; subst e; exact hkp
    · obtain ⟨p1, p2, hp⟩ := List.append_of_mem hkp
      have := O.before f p1 k (p2 ++ i :: post) (by rw [hs, hp]; simp) j h
      rw [hp]; simp [this]
theorem Ord.not_self (O : Ord ops l) {f i : Nat} (hi : i < ops.size) : ahead ops.toList f i i = false := by
  cases h : ahead ops.toList f i i with
  | false => rfl
  | true =>
    obtain ⟨pre, post, hs⟩ := List.append_of_mem ((O.all i).2 hi)
    have hm := O.before f pre i post hs i h
    have hn := O.nd
    rw [hs, List.pairwise_append] at hn
    exact absurd rfl (hn.2.2 i hm i (by simp))
theorem pairwise_of_split {α : Type} {R : α → α → Prop} : ∀ {l : List α}, (∀ pre a post, l = pre ++ a :: post → ∀ x ∈ pre, R x a) → l.Pairwise R
  | [], _ => .nil
  | x :: r, h => by
    refine .cons (fun y hy => ?_) (pairwise_of_split fun pre a post hs z hz => h (x :: pre) a post (by rw [hs]; rfl) z (by simp [hz]))
    obtain ⟨p1, p2, rfl⟩ := List.append_of_mem hy
    exact h (x :: p1) y p2 rfl x (by simp)
theorem Ord.pw (O : Ord ops l) : l.Pairwise fun a b => a ≠ b ∧ (∀ f, ahead ops.toList f a b = false) ∧ (wrAt ops.toList b = true → ahead ops.toList ops.toList.length b a = true) := by
  refine pairwise_of_split fun pre a post hs x hx => ?_
  have hn := O.nd
  rw [hs, List.pairwise_append] at hn
  refine ⟨hn.2.2 x hx a (by simp), fun f => ?_, fun hw => O.wr pre a post hs hw x hx⟩
  cases h : ahead ops.toList f x a with
  | false => rfl
  | true =>
    obtain ⟨p1, p2, hp⟩ := List.append_of_mem hx
    have := O.before f p1 x (p2 ++ a :: post) (by rw [hs, hp]; simp) a h
    exact absurd rfl (hn.2.2 a (by rw [hp]; simp [this]) a (by simp))
/-! entries -/
def wsE (ops : List Oper) (es : List Ent) (ws : List Nat) : List Nat := es.foldl (fun ws e => nextW ops e.i ws) ws
theorem entL_at : ∀ {l : List Nat} {ws : List Nat} {es : List Ent}, entL ops.toList ops.toList.length l ws = some es → es.map Ent.i = l ∧ (∀ e ∈ es, EntOk ops e) ∧ ∀ pre e post, es = pre ++ e :: post → e.w = loose ops.toList ops.toList.length e.i (wsE ops.toList pre ws)
  | [], ws, es, h => by injection h with h; subst h; exact ⟨rfl, fun e he => by simp at he, fun pre e post hs => by simp at hs⟩
  | i :: r, ws, es, h => by
    unfold entL at h
    cases h1 : ent ops.toList ops.toList.length i ws with
    | none => rw [h1] at h; simp [consE] at h
    | some e0 =>
      cases h2 : entL ops.toList ops.toList.length r (nextW ops.toList i ws) with
      | none => rw [h1, h2] at h; simp [consE] at h
      | some es' =>
        rw [h1, h2] at h
        injection h with h; subst h
        obtain ⟨k1, k2, k3⟩ := entL_at h2
        unfold ent at h1
        rw [nthO_eq, Array.getElem?_toList] at h1
        cases ho : ops[i]? with
        | none => rw [ho] at h1; cases h1
        | some o =>
          rw [ho] at h1
          injection h1 with h1; subst h1
          refine ⟨by simp [k1, Ent.i], ?_, ?_⟩
          · intro e he
            rcases List.mem_cons.1 he with rfl | he
            · exact ⟨ho, _, rfl, rfl⟩
            · exact k2 e he
          · intro pre e post hs
            cases pre with
            | nil => simp at hs; rw [← hs.1]; rfl
            | cons p pre =>
              simp at hs
              rw [k3 pre e post hs.2, ← hs.1]
              rfl
theorem wsE_eq : ∀ (es : List Ent) (ws : List Nat), wsE ops.toList es ws = (es.filter fun e => wrAt ops.toList e.i).reverse.map Ent.i ++ ws
  | [], ws => by simp [wsE]
  | e :: es, ws => by
    show wsE ops.toList es (nextW ops.toList e.i ws) = _
    rw [wsE_eq es, List.filter_cons]
    unfold nextW
    cases wrAt ops.toList e.i <;> simp
theorem wrAt_eq {i : Nat} {o : Oper} (h : ops[i]? = some o) : wrAt ops.toList i = isWr (kd o.op) := by
  unfold wrAt
  rw [nthO_eq, Array.getElem?_toList, h]
/-! records that fit entries -/
theorem Fits.map {rs : List Rec} {es : List Ent} (h : Fits rs es) : rs.map (·.i) = es.map Ent.i := by
  induction h with
  | nil => rfl
  | cons h _ ih => simp [h.1, ih]
theorem Fits.split {es : List Ent} : ∀ {pre : List Rec} {r : Rec} {post : List Rec}, Fits (pre ++ r :: post) es → ∃ e1 e e2, es = e1 ++ e :: e2 ∧ Fits pre e1 ∧ FitsE r e ∧ Fits post e2
  | [], r, post, h => by cases h with | cons h hs => exact ⟨[], _, _, rfl, .nil, h, hs⟩
  | p :: pre, r, post, h => by
    cases h with
    | cons h hs =>
      obtain ⟨e1, e, e2, k1, k2, k3, k4⟩ := hs.split
      exact ⟨_ :: e1, e, e2, by rw [k1]; rfl, .cons h k2, k3, k4⟩
theorem Fits.app {a b : List Rec} {x y : List Ent} (h : Fits a x) (h' : Fits b y) : Fits (a ++ b) (x ++ y) := by
  induction h with
  | nil => exact h'
  | cons h _ ih => exact .cons h ih
theorem Fits.mem {rs : List Rec} {es : List Ent} (h : Fits rs es) : ∀ r ∈ rs, ∃ e ∈ es, FitsE r e := by
  induction h with
  | nil => intro r hr; simp at hr
  | cons h _ ih =>
    intro r hr
    rcases List.mem_cons.1 hr with rfl | hr
    · exact ⟨_, by simp, h⟩
    · obtain ⟨e, he, hf⟩ := ih r hr; exact ⟨e, by simp [he], hf⟩
theorem Fits.ws {pre : List Rec} {e1 : List Ent} (h : Fits pre e1) (hop : ∀ r ∈ pre, ops[r.i]? = some r.o) : wsOf pre = (e1.filter fun e => wrAt ops.toList e.i).reverse.map Ent.i := by
  induction h with
  | nil => rfl
  | @cons r e rs es h hs ih =>
    have ihh := ih fun q hq => hop q (by simp [hq])
    unfold wsOf at *
    have hr : r.isW = wrAt ops.toList e.i := by rw [← h.1, wrAt_eq (hop r (by simp))]; rfl
    rw [List.filter_cons, List.filter_cons, hr]
    cases wrAt ops.toList e.i <;> simp [ihh, h.1]
theorem good_of (O : Ord ops l) {rs : List Rec} {es : List Ent} (hf : Fits rs es) (hsub : (es.map Ent.i).Sublist l) (hop : ∀ r ∈ rs, ops[r.i]? = some r.o)
    (hlo : ∀ pre r post, rs = pre ++ r :: post → ∃ ws2, (∀ x ∈ ws2, ∀ q ∈ rs, q.i ≠ x) ∧ r.w = loose ops.toList ops.toList.length r.i (ws2 ++ wsOf pre)) : Good ops rs := by
  have hpw0 : (rs.map (·.i)).Pairwise fun a b => a ≠ b ∧ (∀ f, ahead ops.toList f a b = false) ∧ (wrAt ops.toList b = true → ahead ops.toList ops.toList.length b a = true) := by
    rw [hf.map]; exact O.pw.sublist hsub
  have hpw := List.pairwise_map.1 hpw0
  have hlt : ∀ r ∈ rs, r.i < ops.size := fun r hr => (Array.getElem?_eq_some_iff.1 (hop r hr)).1
  refine ⟨hpw.imp fun h => h.1, ?_, ?_, ?_, ?_, hlo⟩
  · intro r hr q hq t h1 h2
    exact dst_uniq O.dst (by simpa using hop r hr) (by simpa using hop q hq) h1 h2
  · intro pre r post hs q hq ha
    rcases pos_cases hs hq with h | h | h
    · exact h
    · subst h
      rw [O.not_self (hlt q hq)] at ha
      cases ha
    · rw [hs, List.pairwise_append] at hpw
      have := (List.pairwise_cons.1 hpw.2.1).1 q h
      rw [this.2.1] at ha
      cases ha
  · intro r hr q hq hne t hd ht
    have ha := O.ap q.i r.i (hlt q hq) (hlt r hr)
    unfold apartOk at ha
    rw [beq_f (Ne.symm hne), nthO_eq, nthO_eq, Array.getElem?_toList, Array.getElem?_toList, hop q hq, hop r hr] at ha
    simp only at ha
    have hcl : clash ops.toList q.o r.o = true := by
      unfold clash
      rw [hd]
      simp only [hasN_mem.2 ht]
    rw [hcl] at ha
    simp only at ha
    unfold ordered at ha
    split at ha
    · rename_i h; exact .inr h
    · exact .inl ha
  · intro pre r post hs hw q hq
    rw [hs, List.pairwise_append] at hpw
    have := hpw.2.2 q hq r (by simp)
    exact this.2.2 (by rw [wrAt_eq (hop r (mem_split hs))]; exact hw)
end
end
end Go.Proofs.YtmikbfdpenggjaaGreatDoor.Cv
namespace Go.Proofs.YtmikbfdpenggjaaGreatDoor.Cv
open Go
noncomputable section
section
variable {M : Memo} {ih : Ih} {ops : Array Oper} {nx0 nt : Nat} {s0 s' : Sk} {rs : List Rec} {ρ0 : Rho} {h0 : Gt} {w0 : World}
variable {b : FB} {df : List Deferred} {k : List Item} {cs : List Frame}
theorem first_undone {D : Nat → Prop} : ∀ (rs : List Rec), (¬ ∀ r ∈ rs, D r.i) → ∃ pre r post, rs = pre ++ r :: post ∧ ¬ D r.i ∧ ∀ q ∈ pre, D q.i
  | [], h => absurd (fun r hr => by simp at hr) h
  | a :: rs, h => by
    by_cases ha : D a.i
    · obtain ⟨pre, r, post, h1, h2, h3⟩ := first_undone rs fun hall => h fun r hr => by
        rcases List.mem_cons.1 hr with rfl | hr
        · exact ha
        · exact hall r hr
      exact ⟨a :: pre, r, post, by rw [h1]; rfl, h2, fun q hq => by
        rcases List.mem_cons.1 hq with rfl | hq
        · exact ha
        · exact h3 q hq⟩
    · exact ⟨[], a, rs, rfl, ha, fun q hq => by simp at hq⟩
theorem ahead_pred {i j : Nat} {n : Nat} (h : j ∈ preds ops.toList i) : ahead ops.toList (n + 1) i j = true := by
  unfold ahead
  exact anyL_iff.2 ⟨j, h, by rw [beq_t rfl]⟩
theorem len_succ {i : Nat} (h : i < ops.size) : ∃ n, ops.toList.length = n + 1 := ⟨ops.size - 1, by simp; omega⟩
/-- all operations, in any order -/
theorem run_fin (P : PgOk) (hN : SimN (callF M ih · · none)) (hY : SimY ih) (gd : Good ops rs) (hc : Chain M ih ops nx0 nt s0 rs s') (h00 : s0.c = 0) (hH : s0.H = s0.Hs) (hng : ng ≤ nx0)
    (hall : ∀ i, i < ops.size → ∃ r ∈ rs, r.i = i) (hpr : ∀ r ∈ rs, ∀ j ∈ preds ops.toList r.i, j < ops.size) {l : List Nat} {D : Nat → Prop} (hs : Sched ops D l) :
    ∀ {c : Nat} {G : Hp} {ρ : Rho} {tm : Array Value} {w : World} {Hr : Hp}, Inv ops nx0 nt s0 rs ρ0 h0 w0 D c G ρ tm w Hr →
    ∃ D' c' G' ρ' tm' w' Hr', Inv ops nx0 nt s0 rs ρ0 h0 w0 D' c' G' ρ' tm' w' Hr' ∧ (∀ r ∈ rs, D' r.i) ∧ Steps Pg (lone (mkF b tm df (.inRegion ops l :: k) .run) cs w) (lone (mkF b tm' df (.inRegion ops [] :: k) .run) cs w') := by
  induction hs with
  | @nil D hn =>
    intro c G ρ tm w Hr I
    refine ⟨D, c, G, ρ, tm, w, Hr, I, ?_, .refl _ _⟩
    refine Classical.byContradiction fun hnot => ?_
    obtain ⟨pre, r, post, h1, h2, h3⟩ := first_undone rs hnot
    have hr := mem_split h1
    refine hn r.i r.o (rec_ok hc hr).1.op h2 fun j hj => ?_
    obtain ⟨q, hq, hqi⟩ := hall j (hpr r hr j hj)
    obtain ⟨n, hn'⟩ := len_succ (rec_lt hc hr)
    have := gd.ord pre r post h1 q hq (by rw [hn', hqi]; exact ahead_pred hj)
    rw [← hqi]
    exact h3 q this
  | @cons D i o rest ho hD hp _ ih' =>
    intro c G ρ tm w Hr I
    obtain ⟨r, hr, rfl⟩ := hall i (Array.getElem?_eq_some_iff.1 ho).1
    obtain ⟨pre, post, hsp⟩ := List.append_of_mem hr
    obtain ⟨c1, G1, ρ1, tm1, w1, Hr1, I1, st1⟩ := I.step (b := b) (df := df) (k := k) (cs := cs) (rest := rest) P hN hY gd hc h00 hH hng hsp hD hp
    obtain ⟨D', c', G', ρ', tm', w', Hr', I', k1, k2⟩ := ih' I1
    exact ⟨D', c', G', ρ', tm', w', Hr', I', k1, st1.trans k2⟩
/-- less of the heap is known -/
theorem To.sub {ρ ρ' : Rho} {h h' h2 : Gt} {nx nx' : Nat} {w w' : World} (t : To ρ h nx w ρ' h' nx' w') (hs : ∀ x ob, h2 x = some ob → ob.isDead = false → h' x = some ob) : To ρ h nx w ρ' h2 nx' w' :=
  ⟨t.ext, t.old, t.le, t.size, fun bb ⟨x, o, n, h1, h3, h4⟩ => t.im bb ⟨x, o, n, hs x o h1 (O.own_alive h3), h3, h4⟩, t.keep, t.lk⟩
theorem To.comp {ρ ρ1 ρ2 : Rho} {h h1 h1' h2 : Gt} {nx nx1 nx2 : Nat} {w w1 w2 : World} (t : To ρ h nx w ρ1 h1 nx1 w1) (hs : ∀ x ob, h1' x = some ob → ob.isDead = false → h1 x = some ob) (t2 : To ρ1 h1' nx1 w1 ρ2 h2 nx2 w2) : To ρ h nx w ρ2 h2 nx2 w2 := (t.sub hs).trans t2
theorem Inv.start {ρ : Rho} {T : Tr V} {H : Hp} {w : World} {tm : Array Value} (hs0 : s0 = { c := 0, hs := [], Hs := reserve ops.toList.length H, T := T, H := reserve ops.toList.length H }) (r : RH ρ H.get H.nx w) (t : RT ρ nt T tm) :
    Inv ops H.nx nt s0 rs ρ H.get w (fun _ => False) 0 (reserve ops.toList.length H) ρ tm w (reserve ops.toList.length H) := by
  have hget : (reserve ops.toList.length H).get = H.get := by cases H; rfl
  have hnx : (reserve ops.toList.length H).nx = H.nx + ops.size := by cases H; simp [reserve, Hp.nx]
  subst hs0
  refine ⟨fun _ h => h.elim, fun _ h => h.elim, fun r hr _ => ⟨fun h => h.elim, fun h => by omega⟩, .inl ⟨rfl, rfl⟩, t.1, fun _ _ h => h.elim, fun t' _ => t.2 t', ?_, rfl, fun _ _ _ h => h.elim, fun _ _ => rfl, fun i _ _ => r.fresh _ (by omega), ?_, by rw [hnx]; exact Nat.le_refl _, ?_⟩
  · rw [hget, hnx]
    exact ⟨r.obj, r.inj, r.kng, r.big, fun x hx => r.fresh x (by omega), r.lt, r.glob⟩
  · intro q _ _ _ o ho
    rw [hget] at ho
    cases hd : o.isDead with
    | true => rfl
    | false =>
      obtain ⟨bb, n, e, _⟩ := r.obj _ o ho hd
      rw [r.fresh _ (by omega)] at e
      cases e
  · rw [hget, hnx]
    exact ⟨.refl _, fun _ _ => rfl, by omega, Nat.le_refl _, fun _ h => .inl h, fun _ _ _ => rfl, .refl _⟩
theorem blur_get {nt : Nat} : ∀ {l : List Oper} {T T2 : Tr V}, blur nt l (some T) = some T2 → ∀ t, T2.get t = some .un ∨ ((∀ o ∈ l, o.dst ≠ some t) ∧ T2.get t = T.get t)
  | [], T, T2, h, t => by injection h with h; subst h; exact .inr ⟨fun o ho => by simp at ho, rfl⟩
  | o :: l, T, T2, h, t => by
    have h : blur nt l (put nt T .un o.dst) = some T2 := h
    cases hp : put nt T .un o.dst with
    | none => rw [hp] at h; cases l <;> cases h
    | some T1 =>
      rw [hp] at h
      rcases blur_get h t with h' | ⟨h1, h2⟩
      · exact .inl h'
      · rw [put_get hp] at h2
        by_cases hd : o.dst = some t
        · rw [if_pos hd] at h2; exact .inl h2
        · rw [if_neg hd] at h2
          right
          refine ⟨fun q hq => ?_, h2⟩
          rcases List.mem_cons.1 hq with rfl | hq
          · exact hd
          · exact h1 q hq
theorem early_split {ol : List Oper} {n i : Nat} {e : Ent} : ∀ {es f1 f2 : List Ent}, early ol n i es = f1 ++ e :: f2 → ∃ x y, es = x ++ e :: y ∧ early ol n i x = f1
  | [], f1, f2, h => by simp [early] at h
  | a :: es, f1, f2, h => by
    unfold early at h
    split at h
    · rename_i ha
      obtain ⟨x, y, h1, h2⟩ := early_split h
      exact ⟨a :: x, y, by rw [h1]; rfl, by unfold early; rw [ha]; exact h2⟩
    · rename_i ha
      cases f1 with
      | nil => simp at h; exact ⟨[], es, by rw [h.1]; rfl, rfl⟩
      | cons g f1 =>
        simp at h
        obtain ⟨x, y, h1, h2⟩ := early_split h.2
        exact ⟨a :: x, y, by rw [h1]; rfl, by unfold early; rw [ha, h2, h.1]⟩
theorem early_not {ol : List Oper} {n i : Nat} {e : Ent} : ∀ {es : List Ent}, e ∈ early ol n i es → ahead ol n e.i i = false
  | [], h => by simp [early] at h
  | a :: es, h => by
    unfold early at h
    split at h
    · exact early_not h
    · rename_i ha
      rcases List.mem_cons.1 h with rfl | h
      · cases e; exact ha
      · exact early_not h
theorem early_mem {ol : List Oper} {n i : Nat} {e : Ent} : ∀ {es : List Ent}, e ∈ es → ahead ol n e.i i = false → e ∈ early ol n i es
  | [], h, _ => by simp at h
  | a :: es, h, hn => by
    unfold early
    rcases List.mem_cons.1 h with rfl | h
    · have : laterE ol n i e = false := by cases e; exact hn
      rw [this]; simp
    · split
      · exact early_mem h hn
      · exact List.mem_cons_of_mem _ (early_mem h hn)
theorem early_sublist {ol : List Oper} {n i : Nat} : ∀ {es : List Ent}, (early ol n i es).Sublist es
  | [] => .slnil
  | a :: es => by
    unfold early
    split
    · exact .cons _ early_sublist
    · exact .cons_cons _ early_sublist
/-- a writer that panics, in any order -/
theorem run_pan (P : PgOk) (hN : SimN (callF M ih · · none)) (hY : SimY ih) {rs1 rs2 : List Rec} {s1 : Sk} {iw : Nat} {ow : Oper} {v : V} {H1 : Hp} (hrs : rs = rs1 ++ rs2) (gd : Good ops rs) (hc1 : Chain M ih ops nx0 nt s0 rs1 s1) (hc : Chain M ih ops nx0 nt s0 rs s')
    (h00 : s0.c = 0) (hH : s0.H = s0.Hs) (hng : ng ≤ nx0) (how : ops[iw]? = some ow) (hon : wantedA ops s1.T ow.guard = some true) (hg : wrGives M ih ow.op s1.T s1.H (.pan v) H1)
    (f1 : ∀ q ∈ rs1, ahead ops.toList ops.toList.length iw q.i = true) (f3 : ∀ i, i < ops.size → i ≠ iw → (∃ q ∈ rs, q.i = i) ∨ ahead ops.toList ops.toList.length i iw = true)
    (f4 : ∀ j ∈ preds ops.toList iw, ∃ q ∈ rs1, q.i = j) (f5 : ∀ pre q post, rs1 = pre ++ q :: post → ∀ j ∈ preds ops.toList q.i, ∃ p ∈ pre, p.i = j) (f6 : ∀ q ∈ rs2, q.isW = false)
    (f7 : ∀ q ∈ rs, ∀ t, q.o.dst = some t → t ∈ reads ops.toList ow → q ∈ rs1) {l : List Nat} {D : Nat → Prop} (hs : Sched ops D l) :
    ∀ {c : Nat} {G : Hp} {ρ : Rho} {tm : Array Value} {w : World} {Hr : Hp}, ¬ D iw → Inv ops nx0 nt s0 rs ρ0 h0 w0 D c G ρ tm w Hr →
    ∃ ρ' tm' w', RH ρ' H1.get H1.nx w' ∧ To ρ0 h0 nx0 w0 ρ' H1.get H1.nx w' ∧ tm'.size = nt ∧ (∀ t, (∀ q ∈ rs, q.o.dst ≠ some t) → RV ρ' (getU (s0.T.get t)) (tm'.getD t undef)) ∧
      ∃ v' todo, RV ρ' v v' ∧ Steps Pg (lone (mkF b tm df (.inRegion ops l :: k) .run) cs w) (lone (mkF b tm' df todo (.panicking [pEnt v' false])) cs w') := by
  have hsub1 : ∀ q ∈ rs1, q ∈ rs := fun q hq => by rw [hrs]; simp [hq]
  induction hs with
  | @nil D hn =>
    intro c G ρ tm w Hr hD I
    exfalso
    by_cases hall : ∀ r ∈ rs1, D r.i
    · exact hn iw ow how hD fun j hj => by obtain ⟨q, hq, rfl⟩ := f4 j hj; exact hall q hq
    · obtain ⟨pre, r, post, h1, h2, h3⟩ := first_undone rs1 hall
      have hr : r ∈ rs := hsub1 r (mem_split h1)
      exact hn r.i r.o (rec_ok hc hr).1.op h2 fun j hj => by obtain ⟨p, hp, rfl⟩ := f5 pre r post h1 j hj; exact h3 p hp
  | @cons D i o rest ho hDi hp _ ih' =>
    intro c G ρ tm w Hr hD I
    by_cases hi : i = iw
    · subst hi
      rw [how] at ho
      injection ho with ho
      subst ho
      have hall : ∀ q ∈ rs1, D q.i := fun q hq => I.ahead hp (f1 q hq)
      have hcc : c = s1.c := by
        have a : s1.c ≤ c := by
          rcases (chain_G hc1).1 with ⟨e, _⟩ | ⟨q, q1, q2, q3, _⟩
          · omega
          · have := (I.cw q (hsub1 q q1) q2).1 (hall q q1); omega
        have a' : c ≤ s1.c := by
          rcases I.g with ⟨e, _⟩ | ⟨q, q1, q2, q3, _⟩
          · omega
          · rw [hrs] at q1
            rcases List.mem_append.1 q1 with q1 | q1
            · have := (chain_c hc1 q q1).2.2 q2; omega
            · rw [f6 q q1] at q2; cases q2
        omega
      obtain ⟨_, hnx, hsb, hRH⟩ := I.forWr hc h00 hH hc1 hsub1 hcc hall
      have hcut : RT ρ nt (cutT s1.T (reads ops.toList ow) nt) tm := by
        refine ⟨I.sz, fun t => ?_⟩
        rw [cutT_get]
        by_cases hm : t ∈ reads ops.toList ow
        · rw [if_pos hm]
          show RV ρ (getU (s1.T.get t)) _
          have hpw : rs1.Pairwise fun a b => a.i ≠ b.i := by
            have := gd.uniq; rw [hrs] at this; exact (List.pairwise_append.1 this).1
          by_cases hex : ∃ q ∈ rs1, q.o.dst = some t
          · obtain ⟨q, hq, hqd⟩ := hex
            rw [chain_T hc1 hq hqd (fun q' hq' hd' => gd.dst q' (hsub1 q' hq') q (hsub1 q hq) t hd' hqd) hpw]
            exact I.t1 q (hsub1 q hq) (hall q hq) t hqd
          · rw [chain_T0 hc1 fun q hq hd => hex ⟨q, hq, hd⟩]
            exact I.t0 t fun q hq _ hd => hex ⟨q, f7 q hq t hd hm, hd⟩
        · rw [if_neg hm]
          by_cases ht : t < nt
          · rw [if_pos ht]; trivial
          · rw [if_neg ht]
            have : tm.getD t undef = undef := by
              have : ¬ t < tm.size := by rw [I.sz]; exact ht
              simp [this]
            rw [this]
            exact ⟨#[], rfl, rfl⟩
      have hwd := wanted_ok (o := ow) hcut (by rw [cut_want]; exact hon)
      obtain ⟨ρ', w', j1, j2, v', todo, j3, j4⟩ := sim_wr (b := b) (df := df) (k := k) (cs := cs) (rest := rest) P hN hY how hwd hRH hcut (wrGives_cut cut_ev hg)
      rw [hnx] at j2
      refine ⟨ρ', tm, w', j1, I.to.comp hsb j2, I.sz, fun t ht => (I.t0 t fun q hq _ => ht q hq).mono j2.ext, v', todo, j3, j4⟩
    · have hin : ∃ q ∈ rs, q.i = i := by
        rcases f3 i (Array.getElem?_eq_some_iff.1 ho).1 hi with h | h
        · exact h
        · exact absurd (I.ahead hp h) hD
      obtain ⟨r, hr, rfl⟩ := hin
      obtain ⟨pre, post, hsp⟩ := List.append_of_mem hr
      obtain ⟨c1, G1, ρ1, tm1, w1, Hr1, I1, st1⟩ := I.step (b := b) (df := df) (k := k) (cs := cs) (rest := rest) P hN hY gd hc h00 hH hng hsp hDi hp
      obtain ⟨ρ', tm', w', k1, k2, k3, k4, v', todo, k5, k6⟩ := ih' (fun h => h.elim hD (fun e => hi e.symm)) I1
      exact ⟨ρ', tm', w', k1, k2, k3, k4, v', todo, k5, st1.trans k6⟩
theorem sim_draw (P : PgOk) (hN : SimN (callF M ih · · none)) (hY : SimY ih) : SimDraw M ih := by
  intro ops T F H x T' F' H' h ρ b tm df k cs w t s
  have h : drawL M ih ops H.nx T F (reserve ops.toList.length H) (plan ops.toList) = .ok x T' F' H' := h
  cases hp : plan ops.toList with
  | none => rw [hp] at h; cases h
  | some es =>
    rw [hp] at h
    have hp : plan1 ops.toList ops.toList.length (lazy ops.toList ops.toList.length) (planOk ops.toList ops.toList.length (lazy ops.toList ops.toList.length)) = some es := hp
    generalize hl : lazy ops.toList ops.toList.length = l at hp
    cases hok : planOk ops.toList ops.toList.length l with
    | false => rw [hok] at hp; cases hp
    | true =>
      rw [hok] at hp
      have hp : entL ops.toList ops.toList.length l [] = some es := hp
      have O := ord_of hok
      obtain ⟨hidx, hent, hw⟩ := entL_at hp
      let s0 : Sk := { c := 0, hs := [], Hs := reserve ops.toList.length H, T := T, H := reserve ops.toList.length H }
      have hng : ng ≤ H.nx := by
        rcases Nat.lt_or_ge H.nx ng with hlt | hge
        · obtain ⟨n, hn⟩ := s.heap.glob H.nx hlt
          rw [s.heap.fresh _ (Nat.le_refl _)] at hn
          cases hn
        · exact hge
      have h : drawGo M ih ops H.nx es s0.c s0.hs s0.Hs s0.T F s0.H = .ok x T' F' H' := h
      obtain ⟨hF, out⟩ := drawGo_outc F es s0 hent h
      subst hF
      have hget : (reserve ops.toList.length H).get = H.get := by cases H; rfl
      have mem_l : ∀ {e : Ent}, e ∈ es → e.i ∈ l := fun {e} he => by rw [← hidx]; exact List.mem_map_of_mem he
      cases out with
      | fin rs s' hf hc =>
        have hop : ∀ r ∈ rs, ops[r.i]? = some r.o := fun r hr => (rec_ok hc hr).1.op
        have gd : Good ops rs := good_of O hf (by rw [hidx]; exact .refl _) hop fun pre r post hs => by
          refine ⟨[], fun x hx => by simp at hx, ?_⟩
          subst hs
          obtain ⟨e1, e, e2, k1, k2, k3, k4⟩ := hf.split
          rw [k3.2.1, hw e1 e e2 k1, wsE_eq, k2.ws (fun q hq => hop q (by simp [hq])), k3.1]
          simp
        have hall : ∀ i, i < ops.size → ∃ r ∈ rs, r.i = i := by
          intro i hi
          have : i ∈ rs.map (·.i) := by rw [hf.map, hidx]; exact (O.all i).2 hi
          obtain ⟨r, h1, h2⟩ := List.mem_map.1 this
          exact ⟨r, h1, h2⟩
        have hpr : ∀ r ∈ rs, ∀ j ∈ preds ops.toList r.i, j < ops.size := by
          intro r hr j hj
          obtain ⟨pre, post, hs⟩ := List.append_of_mem ((O.all r.i).2 (rec_lt hc hr))
          exact (O.all j).1 (by rw [hs]; simp [O.pr pre r.i post hs j hj])
        obtain ⟨D', c', G', ρ', tm', w', Hr', I', k1, k2⟩ := run_fin (b := b) (df := df) (k := k) (cs := cs) P hN hY gd hc rfl rfl hng hall hpr (sched_linearise ops t) (Inv.start (rs := rs) (nt := F'.nt) rfl s.heap s.tmps)
        have hcc : c' = s'.c := by
          have a : s'.c ≤ c' := by
            rcases (chain_G hc).1 with ⟨e, _⟩ | ⟨q, q1, q2, q3, _⟩
            · have e : s'.c = 0 := e; omega
            · have := (I'.cw q q1 q2).1 (k1 q q1); omega
          have a' : c' ≤ s'.c := by
            rcases I'.g with ⟨e, _⟩ | ⟨q, q1, q2, q3, _⟩
            · have e : c' = 0 := e; omega
            · have := (chain_c hc q q1).2.2 q2; omega
          omega
        obtain ⟨_, hnx, hsb, hRH⟩ := I'.forWr hc rfl rfl hc (fun q hq => hq) hcc k1
        have hto : To ρ H.get H.nx w ρ' s'.H.get s'.H.nx w' := by rw [hnx]; exact I'.to.sub hsb
        refine ⟨ρ', tm', df, cs, w', ⟨hRH, ⟨I'.sz, fun t' => ?_⟩, s.dfs.mono hto.ext, s.rc.mono hto.ext, s.rd.mono hto.ext, s.fok⟩, hto, .same _ _, Steps.trans k2 st_region_end⟩
        by_cases hex : ∃ q ∈ rs, q.o.dst = some t'
        · obtain ⟨q, hq, hqd⟩ := hex
          rw [chain_T hc hq hqd (fun q' hq' hd' => gd.dst q' hq' q hq t' hd' hqd) gd.uniq]
          exact I'.t1 q hq (k1 q hq) t' hqd
        · rw [chain_T0 hc fun q hq hd => hex ⟨q, hq, hd⟩]
          exact I'.t0 t' fun q hq _ hd => hex ⟨q, hq, hd⟩
      | pan rs1 e es1 es2 s1 rs2 s2 v H1 T2 hes hf hc hw' ho hon hg hf2 hc2 hnw hb =>
        have hcc := chain_app hc hc2
        have hop : ∀ r ∈ rs1 ++ rs2, ops[r.i]? = some r.o := fun r hr => (rec_ok hcc hr).1.op
        have hl2 : l = es1.map Ent.i ++ e.i :: es2.map Ent.i := by rw [← hidx, hes]; simp
        have hwr : wrAt ops.toList e.i = true := by rw [wrAt_eq ho, hw']; rfl
        have hnd := O.nd
        rw [hl2, List.pairwise_append] at hnd
        have n1 : ∀ a ∈ es1, a.i ≠ e.i := fun a ha => hnd.2.2 a.i (List.mem_map_of_mem ha) e.i (by simp)
        have n2 : ∀ a ∈ es2, e.i ≠ a.i := fun a ha => (List.pairwise_cons.1 hnd.2.1).1 a.i (List.mem_map_of_mem ha)
        have n3 : ∀ a ∈ es1, ∀ c ∈ es2, a.i ≠ c.i := fun a ha c hc => hnd.2.2 a.i (List.mem_map_of_mem ha) c.i (by simp; right; exact ⟨c, hc, rfl⟩)
        have n4 : ∀ a ∈ es2, ∀ c ∈ es2, a.i = c.i → a = c := by
          have hp2 := (List.pairwise_cons.1 hnd.2.1).2
          rw [List.pairwise_map] at hp2
          intro a ha c hc hac
          exact Classical.byContradiction fun hne => by
            obtain ⟨x1, x2, hx⟩ := List.append_of_mem ha
            rw [hx, List.pairwise_append] at hp2
            rw [hx] at hc
            rcases List.mem_append.1 hc with hc | hc
            · exact hp2.2.2 c hc a (by simp) hac.symm
            · rcases List.mem_cons.1 hc with hc | hc
              · exact hne hc.symm
              · exact (List.pairwise_cons.1 hp2.2.1).1 c hc hac
        have in1 : ∀ q ∈ rs1, ∃ a ∈ es1, q.i = a.i := fun q hq => by obtain ⟨a, ha, h⟩ := hf.mem q hq; exact ⟨a, ha, h.1⟩
        have in2 : ∀ q ∈ rs2, ∃ a ∈ es2, q.i = a.i ∧ ahead ops.toList ops.toList.length a.i e.i = false := fun q hq => by
          obtain ⟨a, ha, h⟩ := hf2.mem q hq; exact ⟨a, early_sub ha, h.1, early_not ha⟩
        have pw := O.pw
        rw [hl2] at pw
        have hsubl : ((es1 ++ early ops.toList ops.toList.length e.i es2).map Ent.i).Sublist l := by
          rw [hl2, List.map_append]
          exact List.Sublist.append (.refl _) (.cons _ (early_sublist.map _))
        have gd : Good ops (rs1 ++ rs2) := good_of O (hf.app hf2) hsubl hop fun pre r post hs => by
          rcases List.append_eq_append_iff.1 hs with ⟨asg, h1, h2⟩ | ⟨bs, h1, h2⟩
          · -- behind
            rw [h2] at hf2
            obtain ⟨e1, e', e2, k1, k2, k3, k4⟩ := hf2.split
            obtain ⟨x1, y1, j1, j2⟩ := early_split k1
            have hsp : es = (es1 ++ e :: x1) ++ e' :: y1 := by rw [hes, j1]; simp
            refine ⟨(x1.filter fun e => wrAt ops.toList e.i).reverse.map Ent.i ++ [e.i], ?_, ?_⟩
            · intro z hz q hq hqz
              have key : ∀ c ∈ es2, wrAt ops.toList c.i = true → ahead ops.toList ops.toList.length c.i e.i = true := by
                intro c hc hcw
                rw [List.pairwise_append] at pw
                exact ((List.pairwise_cons.1 pw.2.1).1 c.i (List.mem_map_of_mem hc)).2.2 hcw
              rcases List.mem_append.1 hz with hz | hz
              · obtain ⟨c, hc, rfl⟩ := List.mem_map.1 hz
                have hc := List.mem_reverse.1 hc
                rw [List.mem_filter] at hc
                have hc2' : c ∈ es2 := by rw [j1]; simp [hc.1]
                rcases List.mem_append.1 hq with hq | hq
                · obtain ⟨a, ha, hqa⟩ := in1 q hq
                  exact n3 a ha c hc2' (by rw [← hqa, hqz])
                · obtain ⟨a, ha, hqa, han⟩ := in2 q hq
                  have := n4 a ha c hc2' (by rw [← hqa, hqz])
                  subst this
                  rw [key a ha hc.2] at han
                  cases han
              · simp at hz
                subst hz
                rcases List.mem_append.1 hq with hq | hq
                · obtain ⟨a, ha, hqa⟩ := in1 q hq
                  exact n1 a ha (by rw [← hqa, hqz])
                · obtain ⟨a, ha, hqa, _⟩ := in2 q hq
                  exact n2 a ha (by rw [← hqa, hqz])
            · rw [k3.2.1, hw _ e' y1 hsp, wsE_eq, k3.1, h1]
              have hasw : wsOf asg = [] := by
                unfold wsOf
                have : asg.filter (·.isW) = [] := List.filter_eq_nil_iff.2 fun q hq => by rw [hnw q (by rw [h2]; simp [hq])]; simp
                rw [this]; rfl
              have hpw : wsOf (rs1 ++ asg) = wsOf rs1 := by
                have : asg.filter (·.isW) = [] := List.filter_eq_nil_iff.2 fun q hq => by rw [hnw q (by rw [h2]; simp [hq])]; simp
                unfold wsOf
                rw [List.filter_append, this, List.append_nil]
              rw [hpw, hf.ws (fun q hq => hop q (by simp [hq]))]
              rw [List.filter_append, List.filter_cons, if_pos hwr]
              simp
          · cases bs with
            | nil =>
              -- the first behind
              simp at h1 h2
              rw [← h2] at hf2
              obtain ⟨e1, e', e2, k1, k2, k3, k4⟩ := hf2.split (pre := [])
              cases k2
              obtain ⟨x1, y1, j1, j2⟩ := early_split k1
              have hsp : es = (es1 ++ e :: x1) ++ e' :: y1 := by rw [hes, j1]; simp
              refine ⟨(x1.filter fun e => wrAt ops.toList e.i).reverse.map Ent.i ++ [e.i], ?_, ?_⟩
              · intro z hz q hq hqz
                have key : ∀ c ∈ es2, wrAt ops.toList c.i = true → ahead ops.toList ops.toList.length c.i e.i = true := by
                  intro c hc hcw
                  rw [List.pairwise_append] at pw
                  exact ((List.pairwise_cons.1 pw.2.1).1 c.i (List.mem_map_of_mem hc)).2.2 hcw
                rcases List.mem_append.1 hz with hz | hz
                · obtain ⟨c, hc, rfl⟩ := List.mem_map.1 hz
                  have hc := List.mem_reverse.1 hc
                  rw [List.mem_filter] at hc
                  have hc2' : c ∈ es2 := by rw [j1]; simp [hc.1]
                  rcases List.mem_append.1 hq with hq | hq
                  · obtain ⟨a, ha, hqa⟩ := in1 q hq
                    exact n3 a ha c hc2' (by rw [← hqa, hqz])
                  · obtain ⟨a, ha, hqa, han⟩ := in2 q hq
                    have := n4 a ha c hc2' (by rw [← hqa, hqz])
                    subst this
                    rw [key a ha hc.2] at han
                    cases han
                · simp at hz
                  subst hz
                  rcases List.mem_append.1 hq with hq | hq
                  · obtain ⟨a, ha, hqa⟩ := in1 q hq
                    exact n1 a ha (by rw [← hqa, hqz])
                  · obtain ⟨a, ha, hqa, _⟩ := in2 q hq
                    exact n2 a ha (by rw [← hqa, hqz])
              · rw [k3.2.1, hw _ e' y1 hsp, wsE_eq, k3.1, ← h1, hf.ws (fun q hq => hop q (by simp [hq]))]
                rw [List.filter_append, List.filter_cons, if_pos hwr]
                simp
            | cons b0 bs =>
              simp at h2
              obtain ⟨rfl, h2⟩ := h2
              rw [h1] at hf
              obtain ⟨e1, e', e2, k1, k2, k3, k4⟩ := hf.split
              refine ⟨[], fun x hx => by simp at hx, ?_⟩
              rw [k3.2.1, hw e1 e' (e2 ++ e :: es2) (by rw [hes, k1]; simp), wsE_eq, k2.ws (fun q hq => hop q (by rw [h1]; simp [hq])), k3.1]
              simp
        have hinI : Inv ops H.nx F'.nt s0 (rs1 ++ rs2) ρ H.get w (fun _ => False) 0 (reserve ops.toList.length H) ρ tm w (reserve ops.toList.length H) := Inv.start rfl s.heap s.tmps
        obtain ⟨ρ', tm', w', j1, j2, j3, j4, v', todo, j5, j6⟩ := run_pan (b := b) (df := df) (k := k) (cs := cs) P hN hY rfl gd hc hcc rfl rfl hng ho hon hg
          (fun q hq => by
            obtain ⟨a, ha, hqa⟩ := in1 q hq
            rw [hqa]
            rw [List.pairwise_append] at pw
            exact (pw.2.2 a.i (List.mem_map_of_mem ha) e.i (by simp)).2.2 hwr)
          (fun i hi hne => by
            have : i ∈ l := (O.all i).2 hi
            rw [hl2] at this
            rcases List.mem_append.1 this with h | h
            · left
              have : i ∈ rs1.map (·.i) := by rw [hf.map]; exact h
              obtain ⟨r, h1, h2⟩ := List.mem_map.1 this
              exact ⟨r, by simp [h1], h2⟩
            · rcases List.mem_cons.1 h with h | h
              · exact absurd h hne
              · obtain ⟨a, ha, rfl⟩ := List.mem_map.1 h
                cases han : ahead ops.toList ops.toList.length a.i e.i with
                | true => exact .inr rfl
                | false =>
                  left
                  have : a.i ∈ rs2.map (·.i) := by rw [hf2.map]; exact List.mem_map_of_mem (early_mem ha han)
                  obtain ⟨r, h1, h2⟩ := List.mem_map.1 this
                  exact ⟨r, by simp [h1], h2⟩)
          (fun j hj => by
            have := O.pr _ _ _ hl2 j hj
            rw [← hf.map] at this
            obtain ⟨r, h1, h2⟩ := List.mem_map.1 this
            exact ⟨r, h1, h2⟩)
          (fun pre q post hs j hj => by
            subst hs
            have hf' := hf
            obtain ⟨e1, e', e2, k1, k2, k3, k4⟩ := hf'.split
            have := O.pr (e1.map Ent.i) e'.i (e2.map Ent.i ++ e.i :: es2.map Ent.i) (by rw [hl2, k1]; simp) j (by rw [← k3.1]; exact hj)
            rw [← k2.map] at this
            obtain ⟨r, h1, h2⟩ := List.mem_map.1 this
            exact ⟨r, h1, h2⟩)
          hnw
          (fun q hq t' hd ht => by
            rcases List.mem_append.1 hq with h | h
            · exact h
            · exfalso
              obtain ⟨a, ha, hqa, han⟩ := in2 q h
              have hne : q.i ≠ e.i := fun e' => n2 a ha (by rw [← hqa, e'])
              have hap := O.ap q.i e.i (rec_lt hcc hq) (Array.getElem?_eq_some_iff.1 ho).1
              unfold apartOk at hap
              rw [beq_f hne, nthO_eq, nthO_eq, Array.getElem?_toList, Array.getElem?_toList, hop q hq, ho] at hap
              simp only at hap
              have hcl : clash ops.toList q.o e.o = true := by
                unfold clash
                rw [hd]
                simp only [hasN_mem.2 ht]
              rw [hcl] at hap
              simp only at hap
              unfold ordered at hap
              rw [hqa, han] at hap
              simp only at hap
              rw [List.pairwise_append] at pw
              rw [((List.pairwise_cons.1 pw.2.1).1 a.i (List.mem_map_of_mem ha)).2.1] at hap
              cases hap)
          (sched_linearise ops t) (fun h => h) hinI
        refine ⟨ρ', tm', df, cs, w', ⟨j1, ⟨j3, fun t' => ?_⟩, s.dfs.mono j2.ext, s.rc.mono j2.ext, s.rd.mono j2.ext, s.fok⟩, j2, .same _ _, v', todo, j5, j6⟩
        rcases blur_get hb t' with h' | ⟨h1, h2⟩
        · rw [h']; trivial
        · rw [h2, chain_T0 hc fun q hq hd => ?_]
          · refine j4 t' fun q hq hd => h1 q.o ?_ hd
            have := hop q hq
            exact List.mem_of_getElem? (by simpa using this)
          · have := hop q (by simp [hq])
            exact h1 q.o (List.mem_of_getElem? (by simpa using this)) hd
end
end
end Go.Proofs.YtmikbfdpenggjaaGreatDoor.Cv
namespace Go.Proofs.YtmikbfdpenggjaaGreatDoor.Cv
open Go
noncomputable section
theorem sim_all (P : PgOk) {M : Memo} (hM : MemoOk M) : ∀ n, SimC (exec M n)
  | 0 => by intro c T F H x T' F' H' h; cases h
  | n + 1 => by
    have hC := sim_all P hM n
    have hN := sim_call P hM hC
    have hY := sim_yield hC
    exact sim_exec P hC hN hY (sim_draw P hN hY) (sim_range P hC hN)
/-- a run of the evaluator is a run of the program -/
theorem calls_of (P : PgOk) {M : Memo} (hM : MemoOk M) {n f : Nat} {args : List V} {H : Hp} {v : V} {R : Option V} {H' : Hp} (hm : M f args H = .no) (h : callN M n f args H = .ok (.ret v) R H') {ρ : Rho} {vs : List Value} {w : World} (r : RH ρ H.get H.nx w) (ha : RVs ρ args vs) :
    Calls Pg f vs.toArray w fun e w' => ∃ v' ρ', e = .returned v' ∧ RV ρ' v v' ∧ RH ρ' H'.get H'.nx w' ∧ To ρ H.get H.nx w ρ' H'.get H'.nx w' := by
  intro cs
  have hC := sim_all P hM n
  have h0 : SimG (call0 (exec M n)) := sim_enter P hC simG_no
  have h : enter (exec M n) (call0 (exec M n)) args none H Pg.funcs[f]? = .ok (.ret v) R H' := by
    have h : callF M (exec M n) f args none H = .ok (.ret v) R H' := h
    unfold callF at h
    rw [hm] at h
    exact h
  obtain ⟨_, hg⟩ := sim_enter P hC h0 f args none H _ R H' h
  obtain ⟨ρ', cs', w', k1, k2, k3, v', tm, todo, fn, k4, k5, k6, k7⟩ := hg ρ vs .normal cs w r ha (fun fr hfr => by unfold tryRecover; rw [hfr])
  obtain ⟨_, rfl⟩ := RcTo.none_inv k3
  exact ⟨.returned v', w', _, ⟨v', ρ', rfl, k4, k1, k2⟩, k7, rfl, rfl, rfl, rfl, fn, k5, k6⟩
/-- .. and back: a contract of a function as a call that is known -/
theorem goes_of {f : Nat} {vs : List Value} {w : World} {Q : Value → World → Prop} (h : Calls Pg f vs.toArray w fun e w' => ∃ v, e = .returned v ∧ Q v w') (c : Frame) (cs : List Frame) :
    ∃ v w', Q v w' ∧ Steps Pg (lone (Frame.enter Pg f vs.toArray .normal) (c :: cs) w) (lone (c.finish v) cs w') := by
  obtain ⟨e, w', fr, ⟨v, rfl, hq⟩, hs, _, hl⟩ := h (c :: cs)
  exact ⟨v, w', hq, Steps.trans hs (.one (step_leave_returned hl))⟩
end
end Go.Proofs.YtmikbfdpenggjaaGreatDoor.Cv
