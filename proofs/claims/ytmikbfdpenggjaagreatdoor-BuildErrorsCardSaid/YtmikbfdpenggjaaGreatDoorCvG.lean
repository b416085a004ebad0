/- Regions whose order is open: the plan, and the chain of its steps. Conditions: those stated in each theorem. -/
import Derived.Test.YtmikbfdpenggjaaGreatDoorCvF
import Derived.Orders
namespace Go.Proofs.YtmikbfdpenggjaaGreatDoor.Cv
open Go
noncomputable section
section
variable {T T' : Tr V} {H H' : Hp}
theorem placeF_congr (fs : Array Field) : ∀ (ps : List (Nat × Operand)) (cs : Option (List V)), (∀ p ∈ ps, ev T p.2 = ev T' p.2) → placeF fs T ps cs = placeF fs T' ps cs
  | [], _, _ => rfl
  | (i, x) :: r, cs, h => by
    unfold placeF
    rw [h (i, x) (by simp)]
    split
    · split
      · exact placeF_congr fs r _ fun p hp => h p (by simp [hp])
      · rfl
    · rfl
theorem placeE_congr (n : Nat) : ∀ (ps : List (Nat × Operand)) (cs : Option (List V)), (∀ p ∈ ps, ev T p.2 = ev T' p.2) → placeE n T ps cs = placeE n T' ps cs
  | [], _, _ => rfl
  | (i, x) :: r, cs, h => by
    unfold placeE
    rw [h (i, x) (by simp)]
    exact placeE_congr n r _ fun p hp => h p (by simp [hp])
theorem evs_congr : ∀ (xs : List Operand), (∀ x ∈ xs, ev T x = ev T' x) → evs T xs = evs T' xs
  | [], _ => rfl
  | x :: r, h => by
    unfold evs
    rw [h x (by simp), evs_congr r fun y hy => h y (by simp [hy])]
theorem bnd_congr (d : Nat) (x : Option Operand) (h : ∀ y ∈ x, ev T y = ev T' y) : bnd d x T = bnd d x T' := by
  cases x with
  | none => rfl
  | some y => show idx (ev T y) = idx (ev T' y); rw [h y (by simp)]
theorem mkSliceLit_congr (e : TypeId) (n : Nat) (ps : Array (Nat × Operand)) (s : Option Nat) (h : ∀ p ∈ ps.toList, ev T p.2 = ev T' p.2) : mkSliceLit e n ps T s = mkSliceLit e n ps T' s := by
  cases s with
  | none => rfl
  | some s => show cellsO e (placeE s T ps.toList _) = cellsO e (placeE s T' ps.toList _); rw [placeE_congr s _ _ h]
theorem opF_congr (op : Op) (H : Hp) (h : ∀ x ∈ op.operands, ev T x = ev T' x) : opF op T H = opF op T' H := by
  cases op <;> simp only [Op.operands] at h <;> first | rfl | skip
  case move x => show val (ev T x) = val (ev T' x); rw [h x (by simp)]
  case assign x => show val (ev T x) = val (ev T' x); rw [h x (by simp)]
  case pick c a b => show opPick (ev T a) (ev T b) (ev T c) = opPick (ev T' a) (ev T' b) (ev T' c); rw [h c (by simp), h a (by simp), h b (by simp)]
  case box e v => show newP H (mkBox e (ev T v)) = newP H (mkBox e (ev T' v)); rw [h v (by simp)]
  case build t ps =>
    have hp : ∀ p ∈ ps.toList, ev T p.2 = ev T' p.2 := fun p hp => h p.2 (by simp; exact ⟨p.1, by simpa using hp⟩)
    show opBuild t ps T = opBuild t ps T'
    unfold opBuild
    split
    · rw [placeF_congr _ _ _ hp]
    · split
      · rw [placeE_congr _ _ _ hp]
      · rfl
    · rfl
  case buildSlice t n ps =>
    have hp : ∀ p ∈ ps.toList, ev T p.2 = ev T' p.2 := fun p hp => h p.2 (by simp; exact ⟨p.1, by simpa using hp⟩)
    show opBuildSlice t n ps T H = opBuildSlice t n ps T' H
    unfold opBuildSlice
    split
    · rw [mkSliceLit_congr _ _ _ _ hp]
    · rfl
  case load t a => show opLoad t H (ev T a) = opLoad t H (ev T' a); rw [h a (by simp)]
  case store t a v => show opStore H (siz t) (ev T a) (ev T v) = opStore H (siz t) (ev T' a) (ev T' v); rw [h a (by simp), h v (by simp)]
  case nilCheck x => show opNil (ev T x) = opNil (ev T' x); rw [h x (by simp)]
  case binOp op t x y ty => show opBin op t (ev T x) (ev T y) = opBin op t (ev T' x) (ev T' y); rw [h x (by simp), h y (by simp)]
  case unOp op t x => show opUn op (ev T x) = opUn op (ev T' x); rw [h x (by simp)]
  case convert s d x => show opConvert s d H (ev T x) = opConvert s d H (ev T' x); rw [h x (by simp)]
  case makeInterface t x => show opIfc t (ev T x) = opIfc t (ev T' x); rw [h x (by simp)]
  case makeFunc f a c =>
    show opMakeFunc f a c T = opMakeFunc f a c T'
    unfold opMakeFunc
    split
    · rw [evs_congr _ fun x hx => h x (by simp; simpa using hx)]
    · rfl
  case makeSlice t l c => show opMakeSlice t H (idx (ev T l)) (idx (ev T c)) = opMakeSlice t H (idx (ev T' l)) (idx (ev T' c)); rw [h l (by simp), h c (by simp)]
  case slice t x lo hi mx =>
    have hx : ev T x = ev T' x := h x (by simp)
    have h1 : ∀ d, bnd d lo T = bnd d lo T' := fun d => bnd_congr d lo fun y hy => h y (by simp; simp at hy; simp [hy])
    have h2 : ∀ d, bnd d hi T = bnd d hi T' := fun d => bnd_congr d hi fun y hy => h y (by simp; simp at hy; simp [hy])
    have h3 : ∀ d, bndM d mx T = bndM d mx T' := fun d => by
      cases mx with
      | none => rfl
      | some y => show bndM1 d (idx (ev T y)) = bndM1 d (idx (ev T' y)); rw [h y (by simp)]
    show opSlice t x lo hi mx T = opSlice t x lo hi mx T'
    unfold opSlice
    split
    · rfl
    · unfold opSlice1 opSliceP
      rw [hx]
      simp only [h1, h2, h3]
  case fieldAddr s x f => show opFieldAddr s f (ev T x) = opFieldAddr s f (ev T' x); rw [h x (by simp)]
  case field s x f => show opField s f (ev T x) = opField s f (ev T' x); rw [h x (by simp)]
  case indexAddr t x i => show opIndexAddr t (ev T x) (idx (ev T i)) = opIndexAddr t (ev T' x) (idx (ev T' i)); rw [h x (by simp), h i (by simp)]
  case index t x i => show opIndex t (ev T x) (idx (ev T i)) = opIndex t (ev T' x) (idx (ev T' i)); rw [h x (by simp), h i (by simp)]
  case lookup t x k ok => show opLookup t ok H (ev T x) (ev T k) = opLookup t ok H (ev T' x) (ev T' k); rw [h x (by simp), h k (by simp)]
  case mapUpdate t m k v => show opUpdate t H (ev T m) (ev T k) (ev T v) = opUpdate t H (ev T' m) (ev T' k) (ev T' v); rw [h m (by simp), h k (by simp), h v (by simp)]
  case range t x => show opRange t H (ev T x) = opRange t H (ev T' x); rw [h x (by simp)]
  case next x s => show opNext s H (ev T x) = opNext s H (ev T' x); rw [h x (by simp)]
  case entry x => show opEntry H (ev T x) = opEntry H (ev T' x); rw [h x (by simp)]
  case typeAssert x t1 t2 ok => show opAssert t2 ok (ev T x) = opAssert t2 ok (ev T' x); rw [h x (by simp)]
  case extract x i => show opExtract i (ev T x) = opExtract i (ev T' x); rw [h x (by simp)]
  case call c =>
    show opCall c T H = opCall c T' H
    have ha : evs T c.args.toList = evs T' c.args.toList := evs_congr _ fun x hx => h x (by simp [Call.operands]; right; simpa using hx)
    unfold opCall
    rw [ha]
    split
    · split
      · rfl
      · rename_i f hc
        rw [h f (by simp [Call.operands, hc])]
      · rfl
    · rfl
  case defer c =>
    show opDefer c T = opDefer c T'
    have ha : evs T c.args.toList = evs T' c.args.toList := evs_congr _ fun x hx => h x (by simp [Call.operands]; right; simpa using hx)
    unfold opDefer
    rw [ha]
    split
    · split
      · rename_i f hc
        rw [h f (by simp [Call.operands, hc])]
      · rfl
    · rfl
  case panic x => show opPanic (ev T x) = opPanic (ev T' x); rw [h x (by simp)]
theorem mkOf_congr (op : Op) (h : ∀ x ∈ op.operands, ev T x = ev T' x) : mkOf op T = mkOf op T' := by
  unfold mkOf
  cases op <;> simp only [Op.operands] at h <;> first | rfl | skip
  case box e v => simp only; rw [h v (by simp)]
  case buildSlice t n ps =>
    have hp : ∀ p ∈ ps.toList, ev T p.2 = ev T' p.2 := fun p hp => h p.2 (by simp; exact ⟨p.1, by simpa using hp⟩)
    simp only
    split
    · rw [mkSliceLit_congr _ _ _ _ hp]
    · rfl
/-- operations that do not look at the heap -/
theorem pure_heap (op : Op) (h : kd op = .pure) : opF op T H = opF op T H' := by
  cases op <;> simp only [kd] at h <;> first | (cases h; done) | rfl | skip
  case call c =>
    split at h <;> first | (cases h; done) | skip
    rename_i hc
    show opCall c T H = opCall c T H'
    unfold opCall
    split
    · simp only [hc]
      unfold opBuiltin
      split <;> first | rfl | (rename_i e; cases e; done) | simp_all
    · rfl
end
end
end Go.Proofs.YtmikbfdpenggjaaGreatDoor.Cv
namespace Go.Proofs.YtmikbfdpenggjaaGreatDoor.Cv
open Go
noncomputable section
mutual
theorem sameV_eq : ∀ (x y : V), sameV x y = true → x = y
  | .b x, y, h => by cases y <;> simp only [sameV] at h <;> first | (cases h; done) | (congr 1; simpa using h)
  | .i k n, y, h => by
    cases y <;> simp only [sameV] at h <;> first | (cases h; done) | skip
    obtain ⟨h1, h2⟩ := both_true h
    rw [eqI_eq] at h2
    rw [eqK_eq h1, of_decide_eq_true h2]
  | .s l, y, h => by
    cases y <;> simp only [sameV] at h <;> first | (cases h; done) | skip
    rw [eqS_eq] at h
    rw [of_decide_eq_true h]
  | .np, y, h => by cases y <;> simp only [sameV] at h <;> first | (cases h; done) | rfl
  | .p x o, y, h => by
    cases y <;> simp only [sameV] at h <;> first | (cases h; done) | skip
    obtain ⟨h1, h2⟩ := both_true h
    rw [of_beq h1, of_beq h2]
  | .nsl, y, h => by cases y <;> simp only [sameV] at h <;> first | (cases h; done) | rfl
  | .se, y, h => by cases y <;> simp only [sameV] at h <;> first | (cases h; done) | rfl
  | .sl x o n c e, y, h => by
    cases y <;> simp only [sameV] at h <;> first | (cases h; done) | skip
    obtain ⟨h1, h2⟩ := both_true h
    obtain ⟨h3, h4⟩ := both_true h1
    obtain ⟨h5, h6⟩ := both_true h2
    obtain ⟨h7, h8⟩ := both_true h6
    rw [of_beq h3, of_beq h4, of_beq h5, of_beq h7, of_beq h8]
  | .nm, y, h => by cases y <;> simp only [sameV] at h <;> first | (cases h; done) | rfl
  | .m x, y, h => by
    cases y <;> simp only [sameV] at h <;> first | (cases h; done) | skip
    rw [of_beq h]
  | .fn f c, y, h => by
    cases y <;> simp only [sameV] at h <;> first | (cases h; done) | skip
    obtain ⟨h1, h2⟩ := both_true h
    rw [of_beq h1, sameL_eq _ _ h2]
  | .yd x, y, h => by
    cases y <;> simp only [sameV] at h <;> first | (cases h; done) | skip
    rw [of_beq h]
  | .nf, y, h => by cases y <;> simp only [sameV] at h <;> first | (cases h; done) | rfl
  | .ifc t v, y, h => by
    cases y <;> simp only [sameV] at h <;> first | (cases h; done) | skip
    obtain ⟨h1, h2⟩ := both_true h
    rw [of_beq h1, sameV_eq _ _ h2]
  | .nifc, y, h => by cases y <;> simp only [sameV] at h <;> first | (cases h; done) | rfl
  | .agg l, y, h => by
    cases y <;> simp only [sameV] at h <;> first | (cases h; done) | skip
    rw [sameL_eq _ _ h]
  | .tup l, y, h => by
    cases y <;> simp only [sameV] at h <;> first | (cases h; done) | skip
    rw [sameL_eq _ _ h]
  | .un, y, h => by cases y <;> simp only [sameV] at h <;> first | (cases h; done) | rfl
  | .md m r, y, h => by
    cases y <;> simp only [sameV] at h <;> first | (cases h; done) | skip
    obtain ⟨h1, h2⟩ := both_true h
    rw [of_beq h1, of_beq h2]
theorem sameL_eq : ∀ (x y : List V), sameL x y = true → x = y
  | [], y, h => by cases y <;> simp only [sameL] at h <;> first | (cases h; done) | rfl
  | x :: r, y, h => by
    cases y <;> simp only [sameL] at h <;> first | (cases h; done) | skip
    obtain ⟨h1, h2⟩ := both_true h
    rw [sameV_eq _ _ h1, sameL_eq _ _ h2]
end
theorem sameR_eq {v : V} {r : Option R} (h : sameR v r = true) : r = some (.v v) := by
  unfold sameR at h
  split at h
  · rw [sameV_eq _ _ h]
  · cases h
section
variable {T : Tr V} {H H' : Hp} {ρ : Rho} {nt : Nat} {tm : Array Value} {w : World} {o : Oper}
theorem sameIn_at {op : Op} {v : V} : ∀ (n : Nat) (hs : List Hp), sameIn op T v n hs = true → ∀ (j : Nat) (G : Hp), j < n → hs[j]? = some G → opF op T G = some (.v v)
  | 0, _, _, j, G, hj, _ => by omega
  | n + 1, [], _, j, G, _, hg => by simp at hg
  | n + 1, K :: hs, h, j, G, hj, hg => by
    unfold sameIn at h
    split at h
    · rename_i e
      cases j with
      | zero => simp at hg; subst hg; exact sameR_eq e
      | succ j => exact sameIn_at n hs h j G (by omega) (by simpa using hg)
    · cases h
/-- the block that a reading operation reads -/
def rdAt (op : Op) (T : Tr V) : Option Nat := match op with
  | .load _ a => match ev T a with
    | some (.p x _) => some x
    | _ => none
  | .lookup _ m _ _ => match ev T m with
    | some (.m x) => some x
    | _ => none
  | .convert _ _ y => match ev T y with
    | some (.sl x _ _ _ _) => some x
    | _ => none
  | .call c => match evs T c.args.toList with
    | some [.m x] => some x
    | _ => none
  | _ => none
theorem rd_heap (op : Op) (h : kd op = .rd) (hh : ∀ x, rdAt op T = some x → H.get x = H'.get x) : opF op T H = opF op T H' := by
  cases op <;> simp only [kd] at h <;> first | (cases h; done) | skip
  case load t a =>
    show opLoad t H (ev T a) = opLoad t H' (ev T a)
    cases e : ev T a with
    | none => rfl
    | some v =>
      show loadP t H (asP v) = loadP t H' (asP v)
      cases ep : asP v with
      | none => rfl
      | some q =>
        obtain ⟨x, off⟩ := q
        have := hh x (by simp [rdAt, e, asP_some ep])
        show val (loadO off (siz t) (isAgg t) (H.get x)) = val (loadO off (siz t) (isAgg t) (H'.get x))
        rw [this]
  case convert s d y =>
    show opConvert s d H (ev T y) = opConvert s d H' (ev T y)
    unfold opConvert
    split <;> first | rfl | skip
    rename_i x off n c e _ _ ev
    have := hh x (by simp [rdAt, ev])
    rw [this]
  case lookup t m k ok =>
    show opLookup t ok H (ev T m) (ev T k) = opLookup t ok H' (ev T m) (ev T k)
    have : mapOf H (ev T m) = mapOf H' (ev T m) := by
      unfold mapOf
      split <;> first | rfl | skip
      rename_i x ev
      rw [hh x (by simp [rdAt, ev])]
    unfold opLookup
    rw [this]
  case call c =>
    split at h <;> first | (cases h; done) | skip
    rename_i hc
    show opCall c T H = opCall c T H'
    unfold opCall
    split
    · rename_i args ea
      simp only [hc]
      unfold opBuiltin
      split <;> first | rfl | (rename_i e; cases e; done) | skip
      · rename_i t ts x _
        unfold opLen
        split <;> first | rfl | skip
        rename_i y e
        injection e with e; subst e
        have := hh y (by simp [rdAt, ea])
        unfold lenMap
        rw [this]
      all_goals simp_all
    · rfl
theorem rd_dom (g : Glob ρ) (t : RT ρ nt T tm) {op : Op} {x : Nat} (h : rdAt op T = some x) : ∃ p, ρ x = some p := by
  unfold rdAt at h
  split at h
  · split at h
    · rename_i e; injection h with h; subst h; obtain ⟨b, n, hb, _⟩ := ev_rel g t e; exact ⟨_, hb⟩
    · cases h
  · split at h
    · rename_i e; injection h with h; subst h; obtain ⟨b, n, hb, _⟩ := ev_rel g t e; exact ⟨_, hb⟩
    · cases h
  · split at h
    · rename_i e; injection h with h; subst h; obtain ⟨b, n, c, hb, _⟩ := ev_rel g t e; exact ⟨_, hb⟩
    · cases h
  · split at h
    · rename_i e; injection h with h; subst h
      obtain ⟨v, vs, _, ⟨b, n, hb, _⟩, _⟩ := evs_rel g t e
      exact ⟨_, hb⟩
    · cases h
  · cases h
theorem rd_alive {op : Op} {x : Nat} {r : R} (hk : kd op = .rd) (h : rdAt op T = some x) (hr : opF op T H = some r) : ∃ ob, H.get x = some ob ∧ ob.isDead = false := by
  unfold rdAt at h
  split at h
  · rename_i t a
    split at h
    · rename_i e
      injection h with h; subst h
      have hr : opLoad t H (ev T a) = some r := hr
      rw [e] at hr
      obtain ⟨u, hu, rfl⟩ := val_some hr
      obtain ⟨q, l, e1, e2, _⟩ := loadO_some hu
      exact ⟨q, e1, by cases q <;> simp_all [cellsOf, O.isDead]⟩
    · cases h
  · rename_i t m k ok
    split at h
    · rename_i y e
      injection h with h; subst h
      have hr : opLookup t ok H (ev T m) (ev T k) = some r := hr
      rw [e] at hr
      unfold opLookup at hr
      split at hr
      · split at hr
        · cases em : mapOf H (some (.m y)) with
          | none => rw [em] at hr; cases hkk : ev T k <;> rw [hkk] at hr <;> cases hr
          | some l =>
            unfold mapOf at em
            simp only at em
            split at em
            · rename_i eg; exact ⟨_, eg, rfl⟩
            · cases em
        · cases hr
      · cases hr
    · cases h
  · rename_i s d y
    split at h
    · rename_i x' off n c e' e
      injection h with h; subst h
      have hr : opConvert s d H (ev T y) = some r := hr
      rw [e] at hr
      unfold opConvert at hr
      split at hr <;> first | (rename_i e2; cases e2; done) | (cases hr; done) | skip
      all_goals first
        | (rename_i e2; injection e2 with e2; cases e2; done)
        | skip
      rename_i x2 o2 n2 c2 s2 _ _ e2
      injection e2 with e2
      injection e2 with e21 e22 e23 e24 e25
      subst e21 e22 e23 e24 e25
      split at hr
      · cases es : subO off n (H.get x') with
        | none => rw [es] at hr; cases hr
        | some l' =>
          obtain ⟨q, l, e1, e2, _⟩ := subO_some es
          exact ⟨q, e1, by cases q <;> simp_all [cellsOf, O.isDead]⟩
      · cases hr
    · cases h
  · rename_i c
    split at h
    · rename_i y e
      injection h with h; subst h
      simp only [kd] at hk
      split at hk <;> first | (cases hk; done) | skip
      rename_i hc
      have hr : opCall c T H = some r := hr
      unfold opCall at hr
      rw [e] at hr
      simp only [hc] at hr
      unfold opBuiltin at hr
      split at hr <;> first | (rename_i e2; cases e2; done) | (cases hr; done) | skip
      · rename_i t ts x _ e2
        injection e2 with e2 _
        subst e2
        unfold opLen at hr
        simp only at hr
        split at hr
        · unfold lenMap at hr
          split at hr
          · rename_i eg; exact ⟨_, eg, rfl⟩
          · cases hr
        · cases hr
      all_goals simp_all
    · cases h
  · cases h
end
end
end Go.Proofs.YtmikbfdpenggjaaGreatDoor.Cv
namespace Go.Proofs.YtmikbfdpenggjaaGreatDoor.Cv
open Go
noncomputable section
def mkIs (x : Nat) : Mk → Option (O × V)
  | .no => none
  | .p ob => some (ob, .p x 0)
  | .sl n e ob => some (ob, .sl x 0 n (Nat.succ n) e)
section
variable {ρ : Rho} {w : World} {nt : Nat} {T : Tr V} {tm : Array Value} {o : Oper}
/-- operations that make a block -/
theorem al_ok (P : PgOk) (g : Glob ρ) (t : RT ρ nt T tm) {x : Nat} {ob : O} {v : V} (hk : kd o.op = .al) (h : mkIs x (mkOf o.op T) = some (ob, v)) :
    ∃ xo n v' w', (execOp (evm tm) o).run Pg w = .ok (.value v') w' ∧ w'.heap = w.heap.push xo ∧ Like w w' ∧ RO ρ n ob (some xo) ∧ ob.own = true ∧ ∀ ρ' : Rho, ρ' x = some (w.heap.size, n) → RV ρ' v v' := by
  cases ho : o.op <;> rw [ho] at hk h <;> simp only [kd] at hk <;> first | (cases hk; done) | (split at hk <;> cases hk; done) | skip
  case alloc e =>
    have h : mkIs x (mkP (mkAlloc e)) = some (ob, v) := h
    cases h1 : mkAlloc e with
    | none => rw [h1] at h; cases h
    | some q =>
      rw [h1] at h
      injection h with h; injection h with h2 h3; subst h2 h3
      obtain ⟨l, h2, rfl⟩ := cellsO_some h1
      obtain ⟨z, h3, rfl⟩ := cells?_some h2
      obtain ⟨i, zv, e1, e2, e3⟩ := zeroV_some h3
      have hr := cells_rc (ofVal_rel ρ e3)
      exact ⟨.cells zv.cells e, zv.cells.size, .pointer (some ⟨w.heap.size, 0, none⟩), w.alloc (.cells zv.cells e), by simp [execOp, ho, Instr.alloc, zeroValue, typeInfo, e1, e2, newVar, newRow], rfl, ⟨rfl, rfl⟩, ⟨_, _, rfl, rfl, hr⟩, rfl, fun ρ' h => ⟨_, _, h, rfl⟩⟩
  case box e y =>
    have h : mkIs x (mkP (mkBox e (ev T y))) = some (ob, v) := h
    cases h1 : mkBox e (ev T y) with
    | none => rw [h1] at h; cases h
    | some q =>
      rw [h1] at h
      injection h with h; injection h with h2 h3; subst h2 h3
      obtain ⟨l, h2, rfl⟩ := cellsO_some h1
      obtain ⟨z, h3, rfl⟩ := cells?_some h2
      have hr := cells_rc (ev_rel g t h3)
      exact ⟨.cells (evm tm y).cells e, (evm tm y).cells.size, .pointer (some ⟨w.heap.size, 0, none⟩), w.alloc (.cells (evm tm y).cells e), by simp [execOp, ho, Instr.box, newVar, newRow], rfl, ⟨rfl, rfl⟩, ⟨_, _, rfl, rfl, hr⟩, rfl, fun ρ' h => ⟨_, _, h, rfl⟩⟩
  case buildSlice ty n ps =>
    have hmap : (ps.map fun x => (x.1, evm tm x.2)).toList = ps.toList.map fun p => (p.1, evm tm p.2) := by simp
    unfold mkOf at h
    simp only at h
    split at h
    · rename_i e ee
      have ed := sliceElem_some ee
      unfold mkSl at h
      split at h
      · rename_i s q es eq
        injection h with h; injection h with h2 h3; subst h2 h3
        rw [es] at eq
        unfold litSz at eq
        simp only at eq
        split at eq
        · rename_i hb
          have hb := of_ble hb
          simp only [mkSliceLit] at eq
          obtain ⟨l', e1, rfl⟩ := cellsO_some eq
          cases e2 : rep? n (cells? (zeroV e)) with
          | none => rw [e2, placeE_none] at e1; cases e1
          | some cs =>
            rw [e2] at e1
            obtain ⟨zl, e2', rfl⟩ := rep?_some e2
            obtain ⟨z, ez, rfl⟩ := cells?_some e2'
            obtain ⟨i, zv, e3, e4, e5⟩ := zeroV_some ez
            obtain ⟨i', ei', rfl⟩ := siz_some es
            rw [e3] at ei'
            injection ei' with ei'
            subst ei'
            have hz := ofVal_cells ρ e5
            have hsz := P.zero e i zv (zeroV_lt ez) e3 e4
            have hc : RC ρ (rep z.cells n) ((Array.range (n * i.size)).map ((if n * i.size = 0 then #[] else zv.cells)[· % (if n * i.size = 0 then #[] else zv.cells).size]!)) := by
              by_cases h0 : n * i.size = 0
              · rw [rep_zero_len _ _ (by have := hz.len; simp at this; rw [this, hsz]; exact h0)]
                exact rc_nil
              · simp only [h0, if_false]
                have := rc_rep hz n
                rw [hsz] at this
                exact this
            obtain ⟨cc, h1, h2, h3, h4⟩ := placeE_ok g t ps.toList _ l' _ hc e1
            have hn : ¬ n * i.size > 2 ^ 24 := by omega
            refine ⟨.cells cc e, cc.size, .slice (some ⟨w.heap.size, 0, none⟩) n n, w.alloc (.cells cc e), ?_, rfl, ⟨rfl, rfl⟩, ⟨_, _, rfl, rfl, h2⟩, rfl, fun ρ' h => ⟨_, _, n, h, rfl, Nat.le_refl _, rfl⟩⟩
            rw [← hmap] at h1
            by_cases h0 : n * i.size = 0
            · simp only [h0, if_true] at h1
              simp only [execOp, ho, Instr.buildSlice, Sem.run_bind, run_underlying ed, Result.andThen_ok, Go.sizeOf, typeInfo, run_program, e3, Sem.run_pure, Sem.run_ite, h0, if_true, h1]
              simp [newRow]
            · simp only [h0, if_false] at h1
              simp only [execOp, ho, Instr.buildSlice, Sem.run_bind, run_underlying ed, Result.andThen_ok, Go.sizeOf, typeInfo, run_program, e3, Sem.run_pure, Sem.run_ite, hn, if_false, h0, zeroValue, e4, h1]
              simp [newRow]
        · cases eq
      · cases h
    · cases h
end
end
end Go.Proofs.YtmikbfdpenggjaaGreatDoor.Cv
namespace Go.Proofs.YtmikbfdpenggjaaGreatDoor.Cv
open Go
noncomputable section
/-- the state of the canonical run -/
structure Sk where
  c : Nat
  hs : List Hp
  Hs : Hp
  T : Tr V
  H : Hp
/-- one operation of the canonical run -/
structure Rec where
  i : Nat
  w : Nat
  o : Oper
  on : Bool
  v : V
  s : Sk
  ob : O
  H' : Hp
def Rec.isW (r : Rec) : Bool := isWr (kd r.o.op)
def Rec.isA (r : Rec) : Prop := r.on = true ∧ kd r.o.op = .al
def Rec.next (r : Rec) (T' : Tr V) : Sk := match isWr (kd r.o.op) with
  | true => { c := r.s.c + 1, hs := r.s.Hs :: r.s.hs, Hs := r.H', T := T', H := r.H' }
  | false => { c := r.s.c, hs := r.s.hs, Hs := r.s.Hs, T := T', H := r.H' }
/-- what a writer gives -/
def wrGives (M : Memo) (ih : Ih) (op : Op) (T : Tr V) (H : Hp) (e : E) (H' : Hp) : Prop := match opF op T H with
  | some (.v v) => e = .ret v ∧ H' = H
  | some (.h v H1) => e = .ret v ∧ H' = H1
  | some (.call f args) => ∃ R, callF M ih f args none H = .ok e R H'
  | some (.yield l args) => ∃ R, yieldF ih l args H = .ok e R H'
  | _ => False
structure RecOk (M : Memo) (ih : Ih) (ops : Array Oper) (nx0 : Nat) (r : Rec) : Prop where
  op : ops[r.i]? = some r.o
  want : wantedA ops r.s.T r.o.guard = some r.on
  does : (r.on = false ∧ r.v = undefV ∧ r.H' = r.s.H)
    ∨ (r.on = true ∧ kd r.o.op = .pure ∧ opF r.o.op r.s.T r.s.H = some (.v r.v) ∧ r.H' = r.s.H)
    ∨ (r.on = true ∧ kd r.o.op = .rd ∧ opF r.o.op r.s.T r.s.H = some (.v r.v) ∧ sameIn r.o.op r.s.T r.v r.w r.s.hs = true ∧ r.H' = r.s.H)
    ∨ (r.on = true ∧ kd r.o.op = .al ∧ mkIs (nx0 + r.i) (mkOf r.o.op r.s.T) = some (r.ob, r.v) ∧ r.H' = r.s.H.set (nx0 + r.i) r.ob)
    ∨ (r.on = true ∧ kd r.o.op = .wr ∧ wrGives M ih r.o.op r.s.T r.s.H (.ret r.v) r.H')
inductive Chain (M : Memo) (ih : Ih) (ops : Array Oper) (nx0 nt : Nat) : Sk → List Rec → Sk → Prop
  | nil (s : Sk) : Chain M ih ops nx0 nt s [] s
  | cons {s s' : Sk} {r : Rec} {rs : List Rec} {T1 : Tr V} (h1 : r.s = s) (h2 : RecOk M ih ops nx0 r) (h3 : put nt s.T r.v r.o.dst = some T1) (h4 : Chain M ih ops nx0 nt (r.next T1) rs s') : Chain M ih ops nx0 nt s (r :: rs) s'
def Ent.i : Ent → Nat | .mk i _ _ _ => i
def Ent.w : Ent → Nat | .mk _ w _ _ => w
def Ent.o : Ent → Oper | .mk _ _ _ o => o
/-- an entry fits its operation -/
def EntOk (ops : Array Oper) (e : Ent) : Prop := ops[e.i]? = some e.o ∧ ∃ k, e = .mk e.i e.w k e.o ∧ k = kd e.o.op
def FitsE (r : Rec) (e : Ent) : Prop := r.i = e.i ∧ r.w = e.w ∧ r.o = e.o
inductive Fits : List Rec → List Ent → Prop
  | nil : Fits [] []
  | cons {r : Rec} {e : Ent} {rs : List Rec} {es : List Ent} (h : FitsE r e) (hs : Fits rs es) : Fits (r :: rs) (e :: es)
theorem kF_inv {K : Kc} {c : Nat} {hs : List Hp} {Hs : Hp} {T : Tr V} {d : Option Nat} {v : V} {H : Hp} {F : Fr} {x : X} {T' : Tr V} {F' : Fr} {H' : Hp} (h : kF K c hs Hs T d v H F = .ok x T' F' H') :
    ∃ T1, put F.nt T v d = some T1 ∧ K c hs Hs T1 F H = .ok x T' F' H' := by
  obtain ⟨nt, D, R, rd⟩ := F
  have h : kPut K c hs Hs (.mk nt D R rd) H (put nt T v d) = .ok x T' F' H' := h
  cases e : put nt T v d with
  | none => rw [e] at h; cases h
  | some T1 => rw [e] at h; exact ⟨T1, e, h⟩
section
variable {M : Memo} {ih : Ih} {ops : Array Oper} {nx0 : Nat}
/-- what is left of a run -/
inductive Outc (M : Memo) (ih : Ih) (ops : Array Oper) (nx0 : Nat) (F : Fr) (es : List Ent) (s : Sk) : X → Tr V → Fr → Hp → Prop
  | fin (rs : List Rec) (s' : Sk) (hf : Fits rs es) (hc : Chain M ih ops nx0 F.nt s rs s') : Outc M ih ops nx0 F es s .normal s'.T F s'.H
  | pan (rs : List Rec) (e : Ent) (es1 es2 : List Ent) (s1 : Sk) (rs2 : List Rec) (s2 : Sk) (v : V) (H1 : Hp) (T2 : Tr V) (hes : es = es1 ++ e :: es2) (hf : Fits rs es1) (hc : Chain M ih ops nx0 F.nt s rs s1)
      (hw : kd e.o.op = .wr) (ho : ops[e.i]? = some e.o) (hon : wantedA ops s1.T e.o.guard = some true) (hg : wrGives M ih e.o.op s1.T s1.H (.pan v) H1)
      (hf2 : Fits rs2 (early ops.toList ops.toList.length e.i es2)) (hc2 : Chain M ih ops nx0 F.nt s1 rs2 s2) (hnw : ∀ r ∈ rs2, r.isW = false) (hb : blur F.nt ops.toList (some s1.T) = some T2) : Outc M ih ops nx0 F es s (.panic v) T2 F H1
theorem Outc.cons {F : Fr} {e : Ent} {es : List Ent} {s : Sk} {r : Rec} {T1 : Tr V} {x : X} {T' : Tr V} {F' : Fr} {H' : Hp} (hr : FitsE r e) (h1 : r.s = s) (h2 : RecOk M ih ops nx0 r) (h3 : put F.nt s.T r.v r.o.dst = some T1)
    (h : Outc M ih ops nx0 F es (r.next T1) x T' F' H') : Outc M ih ops nx0 F (e :: es) s x T' F' H' := by
  cases h with
  | fin rs s' hf hc => exact .fin (r :: rs) s' (.cons hr hf) (.cons h1 h2 h3 hc)
  | pan rs e' es1 es2 s1 rs2 s2 v H1 T2 hes hf hc hw ho hon hg hf2 hc2 hnw hb =>
    exact .pan (r :: rs) e' (e :: es1) es2 s1 rs2 s2 v _ _ (by rw [hes]; rfl) (.cons hr hf) (.cons h1 h2 h3 hc) hw ho hon hg hf2 hc2 hnw hb
theorem next_nw {r : Rec} {T1 : Tr V} (h : isWr (kd r.o.op) = false) : r.next T1 = { c := r.s.c, hs := r.s.hs, Hs := r.s.Hs, T := T1, H := r.H' } := by
  unfold Rec.next; rw [h]
theorem next_w {r : Rec} {T1 : Tr V} (h : isWr (kd r.o.op) = true) : r.next T1 = { c := r.s.c + 1, hs := r.s.Hs :: r.s.hs, Hs := r.H', T := T1, H := r.H' } := by
  unfold Rec.next; rw [h]
theorem nwGo_chain (F : Fr) : ∀ (es : List Ent) (s : Sk) (T' : Tr V) (F' : Fr) (H' : Hp), (∀ e ∈ es, EntOk ops e) → nwGo ops nx0 es s.c s.hs s.Hs s.T F s.H = .ok .normal T' F' H' → ∃ rs s', Fits rs es ∧ Chain M ih ops nx0 F.nt s rs s' ∧ ∀ r ∈ rs, r.isW = false
  | [], s, T', F', H', _, _ => ⟨[], s, .nil, .nil s, fun r hr => by simp at hr⟩
  | e :: es, s, T', F', H', he, h => by
    obtain ⟨ho, k, ek, hk⟩ := he e (by simp)
    rw [ek] at h
    have h : nwW nx0 e.i e.w k e.o (nwGo ops nx0 es) s.c s.hs s.Hs s.T F s.H (wantedA ops s.T e.o.guard) = .ok .normal T' F' H' := h
    have rec' : ∀ (r : Rec) (T1 : Tr V), FitsE r e → r.s = s → RecOk M ih ops nx0 r → put F.nt s.T r.v r.o.dst = some T1 → isWr (kd r.o.op) = false → nwGo ops nx0 es s.c s.hs s.Hs T1 F r.H' = .ok .normal T' F' H' → ∃ rs s', Fits rs (e :: es) ∧ Chain M ih ops nx0 F.nt s rs s' ∧ ∀ r ∈ rs, r.isW = false := by
      intro r T1 hr h1 h2 h3 h4 h5
      obtain ⟨rs, s', k1, k2, k3⟩ := nwGo_chain F es (r.next T1) T' F' H' (fun e he' => he e (by simp [he'])) (by rw [next_nw h4, h1]; exact h5)
      exact ⟨r :: rs, s', .cons hr k1, .cons h1 h2 h3 k2, fun q hq => by
        rcases List.mem_cons.1 hq with rfl | hq
        · exact h4
        · exact k3 q hq⟩
    cases hw : wantedA ops s.T e.o.guard with
    | none => rw [hw] at h; cases h
    | some on =>
      rw [hw] at h
      cases on with
      | false =>
        have h : nwB (nwGo ops nx0 es) s.c s.hs s.Hs s.T F s.H e.o.dst k = .ok .normal T' F' H' := h
        have hkw : isWr k = false := by cases k <;> first | rfl | (cases h)
        have h : kF (nwGo ops nx0 es) s.c s.hs s.Hs s.T e.o.dst undefV s.H F = .ok .normal T' F' H' := by cases k <;> first | exact h | (cases h)
        obtain ⟨T1, e1, h⟩ := kF_inv h
        exact rec' { i := e.i, w := e.w, o := e.o, on := false, v := undefV, s := s, ob := .dead, H' := s.H } T1 ⟨rfl, rfl, rfl⟩ rfl ⟨ho, hw, .inl ⟨rfl, rfl, rfl⟩⟩ e1 (by rw [← hk]; exact hkw) h
      | true =>
        have h : nwKd nx0 e.i e.w e.o (nwGo ops nx0 es) s.c s.hs s.Hs s.T F s.H k = .ok .normal T' F' H' := h
        cases k with
        | wr => cases h
        | pure =>
          have h : kPure (nwGo ops nx0 es) s.c s.hs s.Hs s.T F s.H e.o.dst (opF e.o.op s.T s.H) = .ok .normal T' F' H' := h
          cases hop : opF e.o.op s.T s.H with
          | none => rw [hop] at h; cases h
          | some r =>
            rw [hop] at h
            cases r <;> first | (cases h; done) | skip
            rename_i v
            obtain ⟨T1, e1, h⟩ := kF_inv h
            exact rec' { i := e.i, w := e.w, o := e.o, on := true, v := v, s := s, ob := .dead, H' := s.H } T1 ⟨rfl, rfl, rfl⟩ rfl ⟨ho, hw, .inr (.inl ⟨rfl, hk.symm, hop, rfl⟩)⟩ e1 (by rw [← hk]; rfl) h
        | rd =>
          have h : kRd (nwGo ops nx0 es) s.c s.hs s.Hs s.T F s.H e.o.dst e.w e.o.op (opF e.o.op s.T s.H) = .ok .normal T' F' H' := h
          cases hop : opF e.o.op s.T s.H with
          | none => rw [hop] at h; cases h
          | some r =>
            rw [hop] at h
            cases r <;> first | (cases h; done) | skip
            rename_i v
            have h : kRd1 (nwGo ops nx0 es) s.c s.hs s.Hs s.T F s.H e.o.dst v (sameIn e.o.op s.T v e.w s.hs) = .ok .normal T' F' H' := h
            cases hsi : sameIn e.o.op s.T v e.w s.hs with
            | false => rw [hsi] at h; cases h
            | true =>
              rw [hsi] at h
              obtain ⟨T1, e1, h⟩ := kF_inv h
              exact rec' { i := e.i, w := e.w, o := e.o, on := true, v := v, s := s, ob := .dead, H' := s.H } T1 ⟨rfl, rfl, rfl⟩ rfl ⟨ho, hw, .inr (.inr (.inl ⟨rfl, hk.symm, hop, hsi, rfl⟩))⟩ e1 (by rw [← hk]; rfl) h
        | al =>
          have h : kAl (nwGo ops nx0 es) s.c s.hs s.Hs s.T F s.H e.o.dst (nx0 + e.i) (mkOf e.o.op s.T) = .ok .normal T' F' H' := h
          cases hm : mkOf e.o.op s.T with
          | no => rw [hm] at h; cases h
          | p ob =>
            rw [hm] at h
            obtain ⟨T1, e1, h⟩ := kF_inv h
            exact rec' { i := e.i, w := e.w, o := e.o, on := true, v := .p (nx0 + e.i) 0, s := s, ob := ob, H' := s.H.set (nx0 + e.i) ob } T1 ⟨rfl, rfl, rfl⟩ rfl ⟨ho, hw, .inr (.inr (.inr (.inl ⟨rfl, hk.symm, by rw [hm]; rfl, rfl⟩)))⟩ e1 (by rw [← hk]; rfl) h
          | sl n es' ob =>
            rw [hm] at h
            obtain ⟨T1, e1, h⟩ := kF_inv h
            exact rec' { i := e.i, w := e.w, o := e.o, on := true, v := .sl (nx0 + e.i) 0 n (Nat.succ n) es', s := s, ob := ob, H' := s.H.set (nx0 + e.i) ob } T1 ⟨rfl, rfl, rfl⟩ rfl ⟨ho, hw, .inr (.inr (.inr (.inl ⟨rfl, hk.symm, by rw [hm]; rfl, rfl⟩)))⟩ e1 (by rw [← hk]; rfl) h
theorem early_sub {e : Ent} {n i : Nat} {l : List Oper} : ∀ {es : List Ent}, e ∈ early l n i es → e ∈ es
  | [], h => by simp [early] at h
  | x :: es, h => by
    unfold early at h
    split at h
    · exact List.mem_cons_of_mem _ (early_sub h)
    · rcases List.mem_cons.1 h with rfl | h
      · simp
      · exact List.mem_cons_of_mem _ (early_sub h)
theorem drawGo_outc (F : Fr) {x : X} {T' : Tr V} {F' : Fr} {H' : Hp} : ∀ (es : List Ent) (s : Sk), (∀ e ∈ es, EntOk ops e) → drawGo M ih ops nx0 es s.c s.hs s.Hs s.T F s.H = .ok x T' F' H' → F' = F ∧ Outc M ih ops nx0 F es s x T' F' H'
  | [], s, _, h => by
    injection h with e1 e2 e3 e4
    subst e1 e2 e3 e4
    exact ⟨rfl, .fin [] s .nil (.nil s)⟩
  | e :: es, s, he, h => by
    obtain ⟨ho, k, ek, hk⟩ := he e (by simp)
    rw [ek] at h
    have h : kW M ih es ops.toList nx0 e.i e.w k e.o (drawGo M ih ops nx0 es) s.c s.hs s.Hs s.T F s.H (wantedA ops s.T e.o.guard) = .ok x T' F' H' := h
    have rec' : ∀ (r : Rec) (T1 : Tr V), FitsE r e → r.s = s → RecOk M ih ops nx0 r → put F.nt s.T r.v r.o.dst = some T1 → drawGo M ih ops nx0 es (r.next T1).c (r.next T1).hs (r.next T1).Hs T1 F r.H' = .ok x T' F' H' → F' = F ∧ Outc M ih ops nx0 F (e :: es) s x T' F' H' := by
      intro r T1 hr h1 h2 h3 h5
      have hT : (r.next T1).T = T1 := by unfold Rec.next; split <;> rfl
      have hH : (r.next T1).H = r.H' := by unfold Rec.next; split <;> rfl
      obtain ⟨rfl, k1⟩ := drawGo_outc F es (r.next T1) (fun e he' => he e (by simp [he'])) (by rw [hT, hH]; exact h5)
      exact ⟨rfl, k1.cons hr h1 h2 h3⟩
    cases hw : wantedA ops s.T e.o.guard with
    | none => rw [hw] at h; cases h
    | some on =>
      rw [hw] at h
      cases on with
      | false =>
        have h : isWrB (drawGo M ih ops nx0 es) s.c s.hs s.Hs s.T F s.H e.o.dst k = .ok x T' F' H' := h
        let r : Rec := { i := e.i, w := e.w, o := e.o, on := false, v := undefV, s := s, ob := .dead, H' := s.H }
        have hok : RecOk M ih ops nx0 r := ⟨ho, hw, .inl ⟨rfl, rfl, rfl⟩⟩
        cases hkw : isWr k with
        | true =>
          have h : kF (drawGo M ih ops nx0 es) (s.c + 1) (s.Hs :: s.hs) s.H s.T e.o.dst undefV s.H F = .ok x T' F' H' := by cases k <;> first | exact h | (cases hkw)
          obtain ⟨T1, e1, h⟩ := kF_inv h
          exact rec' r T1 ⟨rfl, rfl, rfl⟩ rfl hok e1 (by rw [next_w (r := r) (by rw [← hk]; exact hkw)]; exact h)
        | false =>
          have h : kF (drawGo M ih ops nx0 es) s.c s.hs s.Hs s.T e.o.dst undefV s.H F = .ok x T' F' H' := by cases k <;> first | exact h | (cases hkw)
          obtain ⟨T1, e1, h⟩ := kF_inv h
          exact rec' r T1 ⟨rfl, rfl, rfl⟩ rfl hok e1 (by rw [next_nw (r := r) (by rw [← hk]; exact hkw)]; exact h)
      | true =>
        have h : kKd M ih es ops.toList nx0 e.i e.w e.o (drawGo M ih ops nx0 es) s.c s.hs s.Hs s.T F s.H k = .ok x T' F' H' := h
        cases k with
        | pure =>
          have h : kPure (drawGo M ih ops nx0 es) s.c s.hs s.Hs s.T F s.H e.o.dst (opF e.o.op s.T s.H) = .ok x T' F' H' := h
          cases hop : opF e.o.op s.T s.H with
          | none => rw [hop] at h; cases h
          | some r =>
            rw [hop] at h
            cases r <;> first | (cases h; done) | skip
            rename_i v
            obtain ⟨T1, e1, h⟩ := kF_inv h
            exact rec' { i := e.i, w := e.w, o := e.o, on := true, v := v, s := s, ob := .dead, H' := s.H } T1 ⟨rfl, rfl, rfl⟩ rfl ⟨ho, hw, .inr (.inl ⟨rfl, hk.symm, hop, rfl⟩)⟩ e1 (by rw [next_nw (by rw [← hk]; rfl)]; exact h)
        | rd =>
          have h : kRd (drawGo M ih ops nx0 es) s.c s.hs s.Hs s.T F s.H e.o.dst e.w e.o.op (opF e.o.op s.T s.H) = .ok x T' F' H' := h
          cases hop : opF e.o.op s.T s.H with
          | none => rw [hop] at h; cases h
          | some r =>
            rw [hop] at h
            cases r <;> first | (cases h; done) | skip
            rename_i v
            have h : kRd1 (drawGo M ih ops nx0 es) s.c s.hs s.Hs s.T F s.H e.o.dst v (sameIn e.o.op s.T v e.w s.hs) = .ok x T' F' H' := h
            cases hsi : sameIn e.o.op s.T v e.w s.hs with
            | false => rw [hsi] at h; cases h
            | true =>
              rw [hsi] at h
              obtain ⟨T1, e1, h⟩ := kF_inv h
              exact rec' { i := e.i, w := e.w, o := e.o, on := true, v := v, s := s, ob := .dead, H' := s.H } T1 ⟨rfl, rfl, rfl⟩ rfl ⟨ho, hw, .inr (.inr (.inl ⟨rfl, hk.symm, hop, hsi, rfl⟩))⟩ e1 (by rw [next_nw (by rw [← hk]; rfl)]; exact h)
        | al =>
          have h : kAl (drawGo M ih ops nx0 es) s.c s.hs s.Hs s.T F s.H e.o.dst (nx0 + e.i) (mkOf e.o.op s.T) = .ok x T' F' H' := h
          cases hm : mkOf e.o.op s.T with
          | no => rw [hm] at h; cases h
          | p ob =>
            rw [hm] at h
            obtain ⟨T1, e1, h⟩ := kF_inv h
            exact rec' { i := e.i, w := e.w, o := e.o, on := true, v := .p (nx0 + e.i) 0, s := s, ob := ob, H' := s.H.set (nx0 + e.i) ob } T1 ⟨rfl, rfl, rfl⟩ rfl ⟨ho, hw, .inr (.inr (.inr (.inl ⟨rfl, hk.symm, by rw [hm]; rfl, rfl⟩)))⟩ e1 (by rw [next_nw (by rw [← hk]; rfl)]; exact h)
          | sl n es' ob =>
            rw [hm] at h
            obtain ⟨T1, e1, h⟩ := kF_inv h
            exact rec' { i := e.i, w := e.w, o := e.o, on := true, v := .sl (nx0 + e.i) 0 n (Nat.succ n) es', s := s, ob := ob, H' := s.H.set (nx0 + e.i) ob } T1 ⟨rfl, rfl, rfl⟩ rfl ⟨ho, hw, .inr (.inr (.inr (.inl ⟨rfl, hk.symm, by rw [hm]; rfl, rfl⟩)))⟩ e1 (by rw [next_nw (by rw [← hk]; rfl)]; exact h)
        | wr =>
          have h : kOp M ih nx0 e.i es ops.toList (drawGo M ih ops nx0 es) s.c s.hs s.Hs s.T F s.H e.o.dst (opF e.o.op s.T s.H) = .ok x T' F' H' := h
          have ret : ∀ (v : V) (H1 : Hp), wrGives M ih e.o.op s.T s.H (.ret v) H1 → kWr (drawGo M ih ops nx0 es) s.c s.hs s.Hs s.T F e.o.dst v H1 = .ok x T' F' H' → F' = F ∧ Outc M ih ops nx0 F (e :: es) s x T' F' H' := by
            intro v H1 hg h
            obtain ⟨T1, e1, h⟩ := kF_inv h
            exact rec' { i := e.i, w := e.w, o := e.o, on := true, v := v, s := s, ob := .dead, H' := H1 } T1 ⟨rfl, rfl, rfl⟩ rfl ⟨ho, hw, .inr (.inr (.inr (.inr ⟨rfl, hk.symm, hg⟩)))⟩ e1 (by rw [next_w (by rw [← hk]; rfl)]; exact h)
          have called : ∀ (q : CRes), (∀ e' R H1, q = .ok e' R H1 → wrGives M ih e.o.op s.T s.H e' H1) → kCall nx0 e.i es ops.toList (drawGo M ih ops nx0 es) s.c s.hs s.Hs s.T F s.H e.o.dst q = .ok x T' F' H' → F' = F ∧ Outc M ih ops nx0 F (e :: es) s x T' F' H' := by
            intro q hq h
            cases q with
            | no => cases h
            | ok e' R H1 =>
              cases e' with
              | ret v => exact ret v H1 (hq _ _ _ rfl) h
              | pan v =>
                have h : kPan ops.toList s.T v H1 F (nwGo ops nx0 (early ops.toList ops.toList.length e.i es) s.c s.hs s.Hs s.T F s.H) = .ok x T' F' H' := h
                cases hn : nwGo ops nx0 (early ops.toList ops.toList.length e.i es) s.c s.hs s.Hs s.T F s.H with
                | no => rw [hn] at h; cases h
                | ok y Ty Fy Hy =>
                  rw [hn] at h
                  cases y <;> first | (cases h; done) | skip
                  obtain ⟨rs2, s2, k1, k2, k3⟩ := nwGo_chain (M := M) (ih := ih) F _ s _ _ _ (fun e' he' => he e' (List.mem_cons_of_mem _ (early_sub he'))) hn
                  obtain ⟨nt, D, R, rd⟩ := F
                  have h : panD v (.mk nt D R rd) H1 (blur nt ops.toList (some s.T)) = .ok x T' F' H' := h
                  cases hb : blur nt ops.toList (some s.T) with
                  | none => rw [hb] at h; cases h
                  | some T2 =>
                    rw [hb] at h
                    injection h with e1 e2 e3 e4
                    subst e1 e2 e3 e4
                    exact ⟨rfl, .pan [] e [] es s rs2 s2 v H1 T2 rfl .nil (.nil s) hk.symm ho hw (hq _ _ _ rfl) k1 k2 k3 hb⟩
          cases hop : opF e.o.op s.T s.H with
          | none => rw [hop] at h; cases h
          | some r =>
            rw [hop] at h
            cases r with
            | v v => exact ret v s.H (by unfold wrGives; rw [hop]; exact ⟨rfl, rfl⟩) h
            | h v H1 => exact ret v H1 (by unfold wrGives; rw [hop]; exact ⟨rfl, rfl⟩) h
            | call f args => exact called _ (fun e' R H1 hq => by unfold wrGives; rw [hop]; exact ⟨R, hq⟩) h
            | yield l args => exact called _ (fun e' R H1 hq => by unfold wrGives; rw [hop]; exact ⟨R, hq⟩) h
            | dfr d => cases h
            | recv => cases h
            | pan v => cases h
end
end
end Go.Proofs.YtmikbfdpenggjaaGreatDoor.Cv
namespace Go.Proofs.YtmikbfdpenggjaaGreatDoor.Cv
open Go
noncomputable section
section
variable {M : Memo} {ih : Ih} {ops : Array Oper} {nx0 nt : Nat}
theorem next_T (r : Rec) (T1 : Tr V) : (r.next T1).T = T1 := by unfold Rec.next; split <;> rfl
theorem next_H (r : Rec) (T1 : Tr V) : (r.next T1).H = r.H' := by unfold Rec.next; split <;> rfl
theorem put_get {nt : Nat} {T T1 : Tr V} {v : V} {d : Option Nat} (h : put nt T v d = some T1) (t : Nat) : T1.get t = if d = some t then some v else T.get t := by
  cases d with
  | none => injection h with h; subst h; simp
  | some d =>
    simp only [put] at h
    split at h
    · injection h with h; subst h
      rw [Tr.get_set]
      by_cases e : t = d
      · subst e; simp
      · rw [if_neg e, if_neg (by intro e2; injection e2 with e2; exact e e2.symm)]
    · cases h
theorem chain_split {s s' : Sk} : ∀ (pre : List Rec) {r : Rec} {post : List Rec}, Chain M ih ops nx0 nt s (pre ++ r :: post) s' → Chain M ih ops nx0 nt s pre r.s ∧ RecOk M ih ops nx0 r ∧ ∃ T1, put nt r.s.T r.v r.o.dst = some T1 ∧ Chain M ih ops nx0 nt (r.next T1) post s' := by
  intro pre
  induction pre generalizing s with
  | nil =>
    intro r post h
    cases h with
    | cons h1 h2 h3 h4 => subst h1; exact ⟨.nil _, h2, _, h3, h4⟩
  | cons q pre ih' =>
    intro r post h
    cases h with
    | cons h1 h2 h3 h4 =>
      obtain ⟨k1, k2, k3⟩ := ih' h4
      exact ⟨.cons h1 h2 h3 k1, k2, k3⟩
theorem chain_app {s s1 s2 : Sk} {a b : List Rec} (h : Chain M ih ops nx0 nt s a s1) (h' : Chain M ih ops nx0 nt s1 b s2) : Chain M ih ops nx0 nt s (a ++ b) s2 := by
  induction h with
  | nil => exact h'
  | cons h1 h2 h3 _ ih' => exact .cons h1 h2 h3 (ih' h')
/-- temporaries -/
theorem chain_T0 {s s' : Sk} {rs : List Rec} (h : Chain M ih ops nx0 nt s rs s') {t : Nat} (hn : ∀ r ∈ rs, r.o.dst ≠ some t) : s'.T.get t = s.T.get t := by
  induction h with
  | nil => rfl
  | cons h1 h2 h3 _ ih' =>
    rw [ih' fun r hr => hn r (by simp [hr]), next_T, put_get h3, if_neg (hn _ (by simp))]
theorem chain_T {s s' : Sk} {rs : List Rec} (h : Chain M ih ops nx0 nt s rs s') {t : Nat} {r : Rec} (hr : r ∈ rs) (hd : r.o.dst = some t) (hu : ∀ q ∈ rs, q.o.dst = some t → q.i = r.i) (hi : rs.Pairwise fun a b => a.i ≠ b.i) : s'.T.get t = some r.v := by
  induction h with
  | nil => simp at hr
  | @cons s s' q rs T1 h1 h2 h3 h4 ih' =>
    rw [List.pairwise_cons] at hi
    rcases List.mem_cons.1 hr with rfl | hr'
    · rw [chain_T0 h4 fun q' hq' hd' => hi.1 q' hq' (hu q' (by simp [hq']) hd').symm, next_T, put_get h3, if_pos hd]
    · exact ih' hr' (fun q' hq' => hu q' (by simp [hq'])) hi.2
/-- the heaps behind the writers -/
def IsG (s : Sk) (rs : List Rec) (c : Nat) (G : Hp) : Prop := (c = s.c ∧ G = s.Hs) ∨ ∃ r ∈ rs, r.isW = true ∧ r.s.c + 1 = c ∧ G = r.H'
theorem IsG.mono {s : Sk} {rs rs' : List Rec} {c : Nat} {G : Hp} (h : IsG s rs c G) (hs : ∀ r ∈ rs, r ∈ rs') : IsG s rs' c G := by
  rcases h with h | ⟨r, h1, h2⟩
  · exact .inl h
  · exact .inr ⟨r, hs r h1, h2⟩
theorem isG_cons {s : Sk} {r : Rec} {rs : List Rec} {T1 : Tr V} {c : Nat} {G : Hp} (hr : r.s = s) (h : IsG (r.next T1) rs c G) : IsG s (r :: rs) c G := by
  rcases h with ⟨h1, h2⟩ | ⟨q, h1, h2⟩
  · cases hw : isWr (kd r.o.op) with
    | true => rw [next_w hw] at h1 h2; exact .inr ⟨r, by simp, hw, h1.symm, h2⟩
    | false => rw [next_nw hw, hr] at h1 h2; exact .inl ⟨h1, h2⟩
  · exact .inr ⟨q, by simp [h1], h2⟩
theorem next_c (r : Rec) (T1 : Tr V) : (r.next T1).c = if r.isW = true then r.s.c + 1 else r.s.c := by
  cases hw : isWr (kd r.o.op) with
  | true => rw [next_w hw]; simp [Rec.isW, hw]
  | false => rw [next_nw hw]; simp [Rec.isW, hw]
theorem chain_le {s s' : Sk} {rs : List Rec} (h : Chain M ih ops nx0 nt s rs s') : s.c ≤ s'.c := by
  induction h with
  | nil => exact Nat.le_refl _
  | @cons s s' r rs T1 h1 _ _ _ ih' => rw [next_c, h1] at ih'; split at ih' <;> omega
theorem chain_c {s s' : Sk} {rs : List Rec} (h : Chain M ih ops nx0 nt s rs s') : ∀ r ∈ rs, s.c ≤ r.s.c ∧ r.s.c ≤ s'.c ∧ (r.isW = true → r.s.c < s'.c) := by
  induction h with
  | nil => intro r hr; simp at hr
  | @cons s s' q rs T1 h1 h2 h3 h4 ih' =>
    intro r hr
    have hle := chain_le h4
    rw [next_c, h1] at hle
    rcases List.mem_cons.1 hr with rfl | hr
    · rw [h1]; refine ⟨Nat.le_refl _, ?_, fun hw => ?_⟩
      · split at hle <;> omega
      · rw [if_pos hw] at hle; omega
    · have := ih' r hr
      rw [next_c, h1] at this
      refine ⟨?_, this.2⟩
      split at this <;> omega
theorem chain_G {s s' : Sk} {rs : List Rec} (h : Chain M ih ops nx0 nt s rs s') : IsG s rs s'.c s'.Hs ∧ (∀ j, j < s'.c - s.c → ∃ G, s'.hs[j]? = some G ∧ IsG s rs (s'.c - 1 - j) G) ∧ s'.hs.drop (s'.c - s.c) = s.hs := by
  induction h with
  | nil s => exact ⟨.inl ⟨rfl, rfl⟩, fun j hj => by omega, by simp⟩
  | @cons s s' r rs T1 h1 h2 h3 h4 ih' =>
    obtain ⟨k1, k2, k3⟩ := ih'
    have hle := chain_le h4
    refine ⟨isG_cons h1 k1, ?_, ?_⟩
    · intro j hj
      by_cases hj2 : j < s'.c - (r.next T1).c
      · obtain ⟨G, g1, g2⟩ := k2 j hj2
        exact ⟨G, g1, isG_cons h1 g2⟩
      · cases hw : isWr (kd r.o.op) with
        | true =>
          have hc : (r.next T1).c = s.c + 1 := by rw [next_w hw, h1]
          have hj3 : j = s'.c - (r.next T1).c := by omega
          have : (s'.hs.drop (s'.c - (r.next T1).c))[0]? = some s.Hs := by rw [k3, next_w hw, h1]; rfl
          rw [List.getElem?_drop, ← hj3] at this
          refine ⟨s.Hs, by simpa using this, .inl ⟨by omega, rfl⟩⟩
        | false =>
          have hc : (r.next T1).c = s.c := by rw [next_nw hw, h1]
          omega
    · cases hw : isWr (kd r.o.op) with
      | true =>
        have hc : (r.next T1).c = s.c + 1 := by rw [next_w hw, h1]
        rw [show s'.c - s.c = (s'.c - (r.next T1).c) + 1 by omega, ← List.drop_drop, k3, next_w hw, h1]; rfl
      | false =>
        have hc : (r.next T1).c = s.c := by rw [next_nw hw, h1]
        rw [show s'.c - s.c = s'.c - (r.next T1).c by omega, k3, next_nw hw, h1]
theorem chain_Hs {s s' : Sk} {rs : List Rec} (h : Chain M ih ops nx0 nt s rs s') (hc : s'.c = s.c) : s'.Hs = s.Hs := by
  obtain ⟨k1, _, _⟩ := chain_G h
  rcases k1 with ⟨_, k⟩ | ⟨r, h1, h2, h3, _⟩
  · exact k
  · have := (chain_c h r h1).1; omega
/-- what is in the heap beside the last writer's -/
theorem chain_H {s s' : Sk} {rs : List Rec} (h : Chain M ih ops nx0 nt s rs s') (x : Nat) :
    (∃ r ∈ rs, r.isA ∧ r.s.c = s'.c ∧ x = nx0 + r.i ∧ s'.H.get x = some r.ob) ∨ ((∀ r ∈ rs, r.isA → r.s.c = s'.c → x ≠ nx0 + r.i) ∧ s'.H.get x = if s'.c = s.c then s.H.get x else s'.Hs.get x) := by
  induction h with
  | nil s => right; exact ⟨fun r hr => by simp at hr, by simp⟩
  | @cons s s' r rs T1 h1 h2 h3 h4 ih' =>
    rcases ih' with ⟨q, k1, k2⟩ | ⟨k1, k2⟩
    · left; exact ⟨q, by simp [k1], k2⟩
    · have hle := chain_le h4
      by_cases ha : r.isA ∧ r.s.c = s'.c ∧ x = nx0 + r.i
      · left
        obtain ⟨ha1, ha2, ha3⟩ := ha
        refine ⟨r, by simp, ha1, ha2, ha3, ?_⟩
        have hw : isWr (kd r.o.op) = false := by rw [ha1.2]; rfl
        have hc : (r.next T1).c = s'.c := by rw [next_nw hw]; exact ha2
        rw [k2, if_pos hc.symm, next_H]
        rcases h2.does with ⟨e, _⟩ | ⟨_, e, _⟩ | ⟨_, e, _⟩ | ⟨_, _, _, e⟩ | ⟨_, e, _⟩
        · rw [ha1.1] at e; cases e
        · rw [ha1.2] at e; cases e
        · rw [ha1.2] at e; cases e
        · rw [e, Hp.get_set, if_pos ha3]
        · rw [ha1.2] at e; cases e
      · right
        refine ⟨fun q hq hqa hqc hqx => ?_, ?_⟩
        · rcases List.mem_cons.1 hq with rfl | hq
          · exact ha ⟨hqa, hqc, hqx⟩
          · exact k1 q hq hqa hqc hqx
        · rw [k2]
          cases hw : isWr (kd r.o.op) with
          | true =>
            have hc : (r.next T1).c = s.c + 1 := by rw [next_w hw, h1]
            rw [if_neg (show ¬ s'.c = s.c by omega)]
            by_cases hcc : s'.c = (r.next T1).c
            · rw [if_pos hcc, chain_Hs h4 hcc, next_w hw]
            · rw [if_neg hcc]
          | false =>
            have hc : (r.next T1).c = s.c := by rw [next_nw hw, h1]
            rw [hc]
            by_cases hcc : s'.c = s.c
            · rw [if_pos hcc, if_pos hcc, next_H]
              rcases h2.does with ⟨_, _, e⟩ | ⟨_, _, _, e⟩ | ⟨_, _, _, _, e⟩ | ⟨e1, e2, _, e⟩ | ⟨_, e, _⟩
              · rw [e, h1]
              · rw [e, h1]
              · rw [e, h1]
              · rw [e, h1, Hp.get_set, if_neg fun ex => ha ⟨⟨e1, e2⟩, by rw [h1, hcc], ex⟩]
              · rw [e] at hw; cases hw
            · rw [if_neg hcc, if_neg hcc]
theorem chain_nx {s s' : Sk} {rs : List Rec} (h : Chain M ih ops nx0 nt s rs s') (hs : s.H.nx = s.Hs.nx) : s'.H.nx = s'.Hs.nx := by
  induction h with
  | nil => exact hs
  | @cons s s' r rs T1 h1 h2 h3 h4 ih' =>
    apply ih'
    cases hw : isWr (kd r.o.op) with
    | true => rw [next_w hw]
    | false =>
      rw [next_nw hw, h1]
      show r.H'.nx = s.Hs.nx
      rcases h2.does with ⟨_, _, e⟩ | ⟨_, _, _, e⟩ | ⟨_, _, _, _, e⟩ | ⟨e1, e2, _, e⟩ | ⟨_, e, _⟩
      · rw [e, h1]; exact hs
      · rw [e, h1]; exact hs
      · rw [e, h1]; exact hs
      · rw [e, h1, Hp.nx_set]; exact hs
      · rw [e] at hw; cases hw
end
/-! the order of the model -/
theorem hasN_mem {n : Nat} {l : List Nat} : hasN n l = true ↔ n ∈ l := by rw [hasN_eq]; simp
theorem allL_iff {α : Type} {p : α → Bool} : ∀ {l : List α}, allL p l = true ↔ ∀ x ∈ l, p x = true
  | [] => by simp [allL]
  | x :: r => by
    unfold allL
    cases h : p x with
    | true => simp [h, allL_iff (l := r)]
    | false => simp [h]
theorem anyL_iff {α : Type} {p : α → Bool} : ∀ {l : List α}, anyL p l = true ↔ ∃ x ∈ l, p x = true
  | [] => by simp [anyL]
  | x :: r => by
    unfold anyL
    cases h : p x with
    | true => simp [h]
    | false => simp [h, anyL_iff (l := r)]
theorem nthO_eq : ∀ (l : List Oper) (n : Nat), nthO l n = l[n]?
  | [], _ => by simp [nthO]
  | _ :: _, 0 => by simp [nthO]
  | _ :: r, n + 1 => by simp [nthO, nthO_eq r n]
theorem edges_mem {l : List Edge} {j : Nat} : j ∈ edges l ↔ ∃ e ∈ l, Region.binds .any e = true ∧ e.on = j := by
  induction l with
  | nil => simp [edges]
  | cons e r ih =>
    unfold edges
    cases h : Region.binds .any e with
    | true =>
      simp [h, ih]
      constructor
      · rintro (h | h)
        · exact .inl h.symm
        · exact .inr h
      · rintro (h | h)
        · exact .inl h.symm
        · exact .inr h
    | false => simp [h, ih]
theorem preds_mem {ops : Array Oper} {i j : Nat} {o : Oper} (ho : ops[i]? = some o) : j ∈ preds ops.toList i ↔ ∃ e ∈ o.after, Region.binds .any e = true ∧ e.on = j := by
  unfold preds
  rw [nthO_eq, Array.getElem?_toList, ho]
  simp only
  rw [edges_mem]
  simp
theorem ahead_closed {ops : List Oper} {D : Nat → Prop} (hc : ∀ i, D i → ∀ j ∈ preds ops i, D j) : ∀ (f i j : Nat), (∀ k ∈ preds ops i, D k) → ahead ops f i j = true → D j
  | 0, _, _, _, h => by cases h
  | f + 1, i, j, hp, h => by
    unfold ahead at h
    obtain ⟨k, hk, h⟩ := anyL_iff.1 h
    split at h
    · rename_i e; have e := of_beq e; subst e; exact hp k hk
    · exact ahead_closed hc f k j (fun q hq => hc k (hp k hk) q hq) h
inductive Sched (ops : Array Oper) : (Nat → Prop) → List Nat → Prop
  | nil {D : Nat → Prop} (h : ∀ (i : Nat) o, ops[i]? = some o → ¬ D i → ¬ ∀ j ∈ preds ops.toList i, D j) : Sched ops D []
  | cons {D : Nat → Prop} {i : Nat} {o : Oper} {rest : List Nat} (ho : ops[i]? = some o) (hD : ¬ D i) (hp : ∀ j ∈ preds ops.toList i, D j) (hs : Sched ops (fun k => D k ∨ k = i) rest) : Sched ops D (i :: rest)
theorem Sched.congr {ops : Array Oper} {D D' : Nat → Prop} {l : List Nat} (h : Sched ops D l) (e : ∀ i, D i ↔ D' i) : Sched ops D' l := by
  have : D = D' := funext fun i => propext (e i)
  exact this ▸ h
theorem sched_go {ops : Array Oper} : ∀ (fuel t : Nat) (listed : Array Bool), listed.size = ops.size → (∀ i, i < ops.size → listed.getD i true = false → True) → (listed.toList.filter (· == false)).length ≤ fuel →
    Sched ops (fun i => listed.getD i false = true) (Region.linearise.go .any ops fuel t listed []) := by
  intro fuel
  induction fuel with
  | zero =>
    intro t listed hs _ hl
    simp only [Region.linearise.go, List.reverse_nil]
    refine .nil fun i o ho hD _ => ?_
    have hi : i < listed.size := by rw [hs]; exact (Array.getElem?_eq_some_iff.1 ho).1
    have hf : listed[i] = false := by
      have : ¬ listed[i] = true := by simpa [hi] using hD
      simpa using this
    have hmem : false ∈ listed.toList.filter (· == false) := by
      rw [List.mem_filter]
      exact ⟨by rw [← hf]; exact Array.getElem_mem_toList hi, rfl⟩
    have hnil : listed.toList.filter (· == false) = [] := List.length_eq_zero_iff.1 (Nat.le_zero.1 hl)
    rw [hnil] at hmem
    cases hmem
  | succ fuel ih =>
    intro t listed hs _ hl
    simp only [Region.linearise.go]
    change Sched ops _ (match (Region.ready .any ops listed)[t % (Region.ready .any ops listed).length]? with
      | some i => Region.linearise.go .any ops fuel (t / (Region.ready .any ops listed).length) (listed.setIfInBounds i true) [i]
      | none => [].reverse)
    cases hi : (Region.ready .any ops listed)[t % (Region.ready .any ops listed).length]? with
    | none =>
      have hnil : Region.ready .any ops listed = [] := by
        cases hr : Region.ready .any ops listed with
        | nil => rfl
        | cons x xs =>
          rw [hr] at hi
          have hlt : t % (x :: xs).length < (x :: xs).length := Nat.mod_lt _ (by simp)
          simp at hi
          simp at hlt
          omega
      refine .nil fun i o ho hD hp => ?_
      have hm : i ∈ Region.ready .any ops listed := by
        rw [mem_ready]
        have hi : i < listed.size := by rw [hs]; exact (Array.getElem?_eq_some_iff.1 ho).1
        have hD : ¬ listed[i] = true := by simpa [hi] using hD
        refine ⟨by simpa [hi] using hD, o, ho, fun e he hb => ?_⟩
        exact hp e.on ((preds_mem ho).2 ⟨e, he, hb, rfl⟩)
      rw [hnil] at hm
      cases hm
    | some i =>
      simp only []
      rw [linearise_go_acc, List.reverse_singleton, List.singleton_append]
      have hm := mem_ready.1 (List.mem_of_getElem? hi)
      obtain ⟨h1, o, ho, h2⟩ := hm
      have hilt : i < listed.size := by rw [hs]; exact (Array.getElem?_eq_some_iff.1 ho).1
      have hf : listed[i] = false := by simpa [hilt] using h1
      refine .cons ho (by simp [hilt, hf]) (fun j hj => ?_) ?_
      · obtain ⟨e, he, hb, rfl⟩ := (preds_mem ho).1 hj
        exact h2 e he hb
      · refine (ih _ (listed.setIfInBounds i true) (by simpa using hs) (fun _ _ _ => trivial) ?_).congr fun k => ?_
        · have : (listed.setIfInBounds i true).toList = listed.toList.set i true := by simp
          rw [this]
          have hcount : ∀ (l : List Bool) (i : Nat) (h : i < l.length), l[i] = false → ((l.set i true).filter (· == false)).length + 1 = (l.filter (· == false)).length := by
            intro l
            induction l with
            | nil => intro i h; simp at h
            | cons a l ihl =>
              intro i h ha
              cases i with
              | zero => simp at ha; subst ha; simp
              | succ i =>
                have := ihl i (by simpa using h) (by simpa using ha)
                cases a <;> simp at this ⊢ <;> omega
          have := hcount listed.toList i (by simpa using hilt) (by simpa using hf)
          omega
        · by_cases hk : k = i
          · subst hk; simp [hilt]
          · rw [getD_set_ne _ (Ne.symm hk)]; simp [hk]
theorem sched_linearise (ops : Array Oper) (t : Nat) : Sched ops (fun _ => False) (Region.linearise .any ops t) := by
  unfold Region.linearise
  refine (sched_go ops.size t (Array.replicate ops.size false) (by simp) (fun _ _ _ => trivial) ?_).congr fun i => ?_
  · exact Nat.le_trans (List.length_filter_le _ _) (by simp)
  · by_cases h : i < ops.size <;> simp [h, Array.getElem?_replicate]
end
end Go.Proofs.YtmikbfdpenggjaaGreatDoor.Cv
namespace Go.Proofs.YtmikbfdpenggjaaGreatDoor.Cv
open Go
noncomputable section
section
variable {M : Memo} {ih : Ih} {b : FB} {tm : Array Value} {df : List Deferred} {k : List Item} {cs : List Frame} {w : World} {ops : Array Oper} {i : Nat} {rest : List Nat} {o : Oper} {ρ : Rho} {T : Tr V} {H H' : Hp} {nt : Nat}
/-- a writer in the machine -/
theorem sim_wr (P : PgOk) (hN : SimN (callF M ih · · none)) (hY : SimY ih) (ho : ops[i]? = some o) (hw : Region.wanted o (yielded ops tm) = true) (r : RH ρ H.get H.nx w) (t : RT ρ nt T tm) {e : E} (h : wrGives M ih o.op T H e H') :
    ∃ ρ' w', RH ρ' H'.get H'.nx w' ∧ To ρ H.get H.nx w ρ' H'.get H'.nx w' ∧ (match e with
      | .ret v => ∃ v', RV ρ' v v' ∧ Steps Pg (lone (mkF b tm df (.inRegion ops (i :: rest) :: k) .run) cs w) (lone (mkF b (putT tm o.dst v') df (.inRegion ops rest :: k) .run) cs w')
      | .pan v => ∃ v' todo, RV ρ' v v' ∧ Steps Pg (lone (mkF b tm df (.inRegion ops (i :: rest) :: k) .run) cs w) (lone (mkF b tm df todo (.panicking [pEnt v' false])) cs w')) := by
  unfold wrGives at h
  cases hop : opF o.op T H with
  | none => rw [hop] at h; exact h.elim
  | some q =>
    rw [hop] at h
    have hok := opF_ok P r t hop
    have hnd : ∀ {r : R}, opF o.op T H = some r → (∀ d, r ≠ .dfr d) → ∀ c, o.op ≠ .defer c := by
      intro r hr hd c hc
      rw [hc] at hr
      have hr : opDefer c T = some r := hr
      unfold opDefer at hr
      split at hr
      · split at hr
        · split at hr
          · unfold dfTo at hr
            split at hr
            · injection hr with hr; exact hd _ hr.symm
            · cases hr
          · cases hr
        · cases hr
      · cases hr
    cases q with
    | v v =>
      obtain ⟨rfl, rfl⟩ := h
      obtain ⟨nv, v', w', h1, h2, h3, h4, h5⟩ := hok
      exact ⟨ρ, w', h4, h5, v', h3, step_nv ho hw (.inr (hnd hop (by simp))) h2 h1⟩
    | h v H1 =>
      obtain ⟨rfl, rfl⟩ := h
      obtain ⟨ρ', nv, v', w', h1, h2, h3, h4, h5⟩ := hok
      exact ⟨ρ', w', h4, h5, v', h3, step_nv ho hw (.inr (hnd hop (by simp))) h2 h1⟩
    | call f args =>
      obtain ⟨R, hq⟩ := h
      obtain ⟨vs, h1, h2⟩ := hok
      obtain ⟨⟨fn, cd, hb1, hb2⟩, hgo⟩ := hN f args H e R H' hq
      have hrun := h2 fn cd hb1 hb2
      obtain ⟨ρ', w', h4, h5, h6⟩ := hgo ρ vs (mkF b tm df (.inRegion ops (i :: rest) :: k) .run) cs w r h1
      have s1 := step_enter (b := b) (df := df) (k := k) (cs := cs) (rest := rest) ho hw (.inr (hnd hop (by simp))) hrun
      refine ⟨ρ', w', h4, h5, ?_⟩
      cases e with
      | ret v => obtain ⟨v', h7, h8⟩ := h6; rw [finish_mk ho] at h8; exact ⟨v', h7, s1.trans h8⟩
      | pan v => obtain ⟨v', h7, h8⟩ := h6; rw [raise_mk] at h8; exact ⟨v', _, h7, s1.trans h8⟩
    | yield l args =>
      obtain ⟨R, hq⟩ := h
      obtain ⟨vs, lb, n, hb, h1, h2⟩ := hok
      obtain ⟨f, tmps, asg, bd, h3, ρ', w', h4, h5, h6⟩ := hY l args H e R H' hq ρ vs lb n (mkF b tm df (.inRegion ops (i :: rest) :: k) .run) cs w r hb h1
      rw [h3] at h2
      have s1 := step_round (b := b) (df := df) (k := k) (cs := cs) (rest := rest) ho hw (.inr (hnd hop (by simp))) h2
      refine ⟨ρ', w', h4, h5, ?_⟩
      cases e with
      | ret v => obtain ⟨v', h7, h8⟩ := h6; rw [finish_mk ho] at h8; exact ⟨v', h7, s1.trans h8⟩
      | pan v => obtain ⟨v', h7, h8⟩ := h6; rw [raise_mk] at h8; exact ⟨v', _, h7, s1.trans h8⟩
    | dfr d => exact h.elim
    | recv => exact h.elim
    | pan v => exact h.elim
end
/-! temporaries that an operation looks at -/
def unT (nt : Nat) : Tr V := (List.range nt).foldl (fun A t => A.set .un t) .e
def cutT (T : Tr V) (rds : List Nat) (nt : Nat) : Tr V := rds.foldl (fun A t => A.set (getU (T.get t)) t) (unT nt)
theorem foldl_get {f : Nat → V} : ∀ (l : List Nat) (A : Tr V) (t : Nat), (l.foldl (fun A t => A.set (f t) t) A).get t = if t ∈ l then some (f t) else A.get t
  | [], A, t => by simp
  | x :: l, A, t => by
    simp only [List.foldl_cons]
    rw [foldl_get l _ t, Tr.get_set]
    by_cases h : t ∈ l
    · simp [h]
    · by_cases hx : t = x
      · subst hx; simp [h]
      · simp [h, hx]
theorem cutT_get (T : Tr V) (rds : List Nat) (nt t : Nat) : (cutT T rds nt).get t = if t ∈ rds then some (getU (T.get t)) else if t < nt then some .un else none := by
  unfold cutT unT
  rw [foldl_get (f := fun t => getU (T.get t)), foldl_get (f := fun _ => V.un)]
  simp [Tr.get_e]
theorem tmpsOf_mem : ∀ {l : List Operand} {t : Nat}, .tmp t ∈ l → t ∈ tmpsOf l
  | [], _, h => by simp at h
  | .tmp u :: r, t, h => by
    unfold tmpsOf
    rcases List.mem_cons.1 h with h | h
    · injection h with h; subst h; simp
    · exact List.mem_cons_of_mem _ (tmpsOf_mem h)
  | .const _ :: r, t, h => by
    unfold tmpsOf
    rcases List.mem_cons.1 h with h | h
    · cases h
    · exact tmpsOf_mem h
  | .global _ :: r, t, h => by
    unfold tmpsOf
    rcases List.mem_cons.1 h with h | h
    · cases h
    · exact tmpsOf_mem h
  | .func _ :: r, t, h => by
    unfold tmpsOf
    rcases List.mem_cons.1 h with h | h
    · cases h
    · exact tmpsOf_mem h
theorem cut_ev {T : Tr V} {ops : Array Oper} {o : Oper} {nt : Nat} : ∀ x ∈ o.op.operands, ev (cutT T (reads ops.toList o) nt) x = ev T x := by
  intro x hx
  cases x with
  | tmp t =>
    show some (getU _) = some (getU _)
    have hm : t ∈ reads ops.toList o := by
      unfold reads
      exact List.mem_append_left _ (tmpsOf_mem (by simpa using hx))
    rw [cutT_get, if_pos hm]
    rfl
  | const _ => rfl
  | global _ => rfl
  | func _ => rfl
theorem cut_want {T : Tr V} {ops : Array Oper} {o : Oper} {nt : Nat} : wantedA ops (cutT T (reads ops.toList o) nt) o.guard = wantedA ops T o.guard := by
  cases hg : o.guard with
  | none => rfl
  | some g =>
    obtain ⟨j, want⟩ := g
    show wantT _ want ops[j]? = wantT T want ops[j]?
    cases hj : ops[j]? with
    | none => rfl
    | some p =>
      obtain ⟨dst, op, ty, pos, after, guard⟩ := p
      cases dst with
      | none => rfl
      | some t =>
        show isB want ((cutT T (reads ops.toList o) nt).get t) = isB want (T.get t)
        have hm : t ∈ reads ops.toList o := by
          unfold reads guardT
          rw [hg]
          simp only [nthO_eq, Array.getElem?_toList, hj]
          simp
        rw [cutT_get, if_pos hm]
        cases hT : T.get t with
        | none => rfl
        | some v => rfl
/-! the good orders -/
def wsOf (pre : List Rec) : List Nat := (pre.filter (·.isW)).reverse.map (·.i)
structure Good (ops : Array Oper) (rs : List Rec) : Prop where
  uniq : rs.Pairwise fun a b => a.i ≠ b.i
  dst : ∀ r ∈ rs, ∀ q ∈ rs, ∀ t, r.o.dst = some t → q.o.dst = some t → r.i = q.i
  ord : ∀ pre r post, rs = pre ++ r :: post → ∀ q ∈ rs, ahead ops.toList ops.toList.length r.i q.i = true → q ∈ pre
  clash : ∀ r ∈ rs, ∀ q ∈ rs, r.i ≠ q.i → ∀ t, q.o.dst = some t → t ∈ reads ops.toList r.o → ahead ops.toList ops.toList.length r.i q.i = true ∨ ahead ops.toList ops.toList.length q.i r.i = true
  wr : ∀ pre r post, rs = pre ++ r :: post → r.isW = true → ∀ q ∈ pre, ahead ops.toList ops.toList.length r.i q.i = true
  loose : ∀ pre r post, rs = pre ++ r :: post → ∃ ws2, (∀ x ∈ ws2, ∀ q ∈ rs, q.i ≠ x) ∧ r.w = Cv.loose ops.toList ops.toList.length r.i (ws2 ++ wsOf pre)
theorem loose_ge {ops : List Oper} {n i : Nat} : ∀ (ws : List Nat) (k : Nat), k ≤ ws.length → (∀ x ∈ ws.take k, ahead ops n i x = false) → k ≤ loose ops n i ws
  | [], k, hk, _ => by simp at hk; omega
  | w :: ws, 0, _, _ => Nat.zero_le _
  | w :: ws, k + 1, hk, h => by
    unfold loose
    rw [h w (by simp)]
    exact Nat.succ_le_succ (loose_ge ws k (by simpa using hk) fun x hx => h x (by simp [hx]))
theorem wsOf_get {M : Memo} {ih : Ih} {ops : Array Oper} {nx0 nt : Nat} {s0 : Sk} (h0 : s0.c = 0) : ∀ (n : Nat) (pre : List Rec) (s : Sk), pre.length = n → Chain M ih ops nx0 nt s0 pre s → (wsOf pre).length = s.c ∧ ∀ j, j < s.c → ∃ q ∈ pre, q.isW = true ∧ q.s.c = s.c - 1 - j ∧ (wsOf pre)[j]? = some q.i := by
  intro n
  induction n with
  | zero =>
    intro pre s hn h
    have : pre = [] := List.length_eq_zero_iff.1 hn
    subst this
    cases h
    exact ⟨by simp [wsOf, h0], fun j hj => by omega⟩
  | succ n ihn =>
    intro pre s hn h
    obtain ⟨pre', q, rfl⟩ : ∃ pre' q, pre = pre' ++ [q] := by
      rcases List.eq_nil_or_concat pre with rfl | ⟨p, q, rfl⟩
      · simp at hn
      · exact ⟨p, q, by simp⟩
    obtain ⟨k1, k2, T1, k3, k4⟩ := chain_split pre' h
    cases k4
    have hl : pre'.length = n := by simpa using hn
    obtain ⟨j1, j2⟩ := ihn pre' q.s hl k1
    have hws : wsOf (pre' ++ [q]) = if q.isW = true then q.i :: wsOf pre' else wsOf pre' := by
      unfold wsOf
      rw [List.filter_append]
      cases hq : q.isW <;> simp [hq]
    rw [hws, next_c]
    cases hw : q.isW with
    | true =>
      simp only [if_true]
      refine ⟨by simp [j1], fun j hj => ?_⟩
      cases j with
      | zero => exact ⟨q, by simp, hw, by omega, rfl⟩
      | succ j =>
        obtain ⟨q', g1, g2, g3, g4⟩ := j2 j (by omega)
        exact ⟨q', by simp [g1], g2, by omega, by simpa using g4⟩
    | false =>
      simp only [Bool.false_eq_true, if_false]
      refine ⟨j1, fun j hj => ?_⟩
      obtain ⟨q', g1, g2, g3, g4⟩ := j2 j hj
      exact ⟨q', by simp [g1], g2, g3, g4⟩
end
end Go.Proofs.YtmikbfdpenggjaaGreatDoor.Cv
