/- How the evaluator's values and heaps stand for those of the model; operations that look at values. Conditions: those stated in each theorem. -/
import Derived.Test.YtmikbfdpenggjaaGreatDoorCvA
import Derived.Laws.CopyRow
import Derived.ArgAppend
import Derived.Laws.Strings
import Derived.Laws.Concat
namespace Go.Proofs.YtmikbfdpenggjaaGreatDoor.Cv
open Go
noncomputable section

abbrev Rho := Nat → Option (Nat × Nat)
def capOk (o len cap esz n c : Nat) : Prop := match cap with
  | 0 => len ≤ c ∧ o + c * esz = n
  | k + 1 => len ≤ c ∧ c = k
mutual
def RV (ρ : Rho) : V → Value → Prop
  | .b x => fun v => v = .bool x
  | .i k n => fun v => v = .int k n
  | .s l => fun v => ∃ s, v = .string s ∧ byteL s.data.toList = l
  | .np => fun v => v = .pointer none
  | .p x o => fun v => ∃ b n, ρ x = some (b, n) ∧ v = .pointer (some ⟨b, o, none⟩)
  | .nsl => fun v => v = .slice none 0 0
  | .se => fun v => ∃ a c, v = .slice (some a) 0 c
  | .sl x o len cap esz => fun v => ∃ b n c, ρ x = some (b, n) ∧ v = .slice (some ⟨b, o, none⟩) len c ∧ capOk o len cap esz n c
  | .nm => fun v => v = .map none
  | .m x => fun v => ∃ b n, ρ x = some (b, n) ∧ v = .map (some b)
  | .fn f c => fun v => ∃ cs : Array Value, v = .func (.func f) #[] cs ∧ RVs ρ c cs.toList
  | .yd x => fun v => ∃ b n, ρ x = some (b, n) ∧ v = .func (.yield b) #[] #[]
  | .nf => fun v => v = .nilFunc
  | .ifc t x => fun v => ∃ v', v = .iface t v' ∧ RV ρ x v'
  | .nifc => fun v => v = .nilIface
  | .agg l => fun v => ∃ cs : Array Value, v = .agg cs ∧ RVs ρ l cs.toList
  | .tup l => fun v => ∃ cs : Array Value, v = .tuple cs ∧ RVs ρ l cs.toList
  | .un => fun _ => True
  | .md m r => fun v => ∃ z : Int, v = .int .i64 z ∧ z % (m : Int) = (r : Int)
def RVs (ρ : Rho) : List V → List Value → Prop
  | [] => fun vs => vs = []
  | x :: r => fun vs => ∃ v vs', vs = v :: vs' ∧ RV ρ x v ∧ RVs ρ r vs'
end
def Ext (ρ ρ' : Rho) : Prop := ∀ x p, ρ x = some p → ρ' x = some p
theorem Ext.refl (ρ : Rho) : Ext ρ ρ := fun _ _ h => h
theorem Ext.trans {a b c : Rho} (h : Ext a b) (h' : Ext b c) : Ext a c := fun x p e => h' x p (h x p e)
mutual
theorem RV.mono {ρ ρ' : Rho} (h : Ext ρ ρ') : ∀ (x : V) (v : Value), RV ρ x v → RV ρ' x v
  | .b _, _, e => e
  | .i _ _, _, e => e
  | .s _, _, e => e
  | .np, _, e => e
  | .p _ _, _, ⟨b, n, e, r⟩ => ⟨b, n, h _ _ e, r⟩
  | .nsl, _, e => e
  | .se, _, e => e
  | .sl .., _, ⟨b, n, c, e, r⟩ => ⟨b, n, c, h _ _ e, r⟩
  | .nm, _, e => e
  | .m _, _, ⟨b, n, e, r⟩ => ⟨b, n, h _ _ e, r⟩
  | .fn _ c, _, ⟨cs, e, r⟩ => ⟨cs, e, RVs.mono h c _ r⟩
  | .yd _, _, ⟨b, n, e, r⟩ => ⟨b, n, h _ _ e, r⟩
  | .nf, _, e => e
  | .ifc _ x, _, ⟨v', e, r⟩ => ⟨v', e, RV.mono h x v' r⟩
  | .nifc, _, e => e
  | .agg l, _, ⟨cs, e, r⟩ => ⟨cs, e, RVs.mono h l _ r⟩
  | .tup l, _, ⟨cs, e, r⟩ => ⟨cs, e, RVs.mono h l _ r⟩
  | .un, _, _ => trivial
  | .md _ _, _, e => e
theorem RVs.mono {ρ ρ' : Rho} (h : Ext ρ ρ') : ∀ (x : List V) (v : List Value), RVs ρ x v → RVs ρ' x v
  | [], _, e => e
  | x :: r, _, ⟨v, vs', e, a, c⟩ => ⟨v, vs', e, RV.mono h x v a, RVs.mono h r vs' c⟩
end

section lists
variable {ρ : Rho}
theorem RVs.nil : RVs ρ [] [] := rfl
theorem RVs.cons {x : V} {v : Value} {l : List V} {vs : List Value} (h : RV ρ x v) (h' : RVs ρ l vs) : RVs ρ (x :: l) (v :: vs) := ⟨_, _, rfl, h, h'⟩
theorem RVs.one {x : V} {v : Value} (h : RV ρ x v) : RVs ρ [x] [v] := .cons h .nil
theorem RVs.len : ∀ {l : List V} {vs : List Value}, RVs ρ l vs → l.length = vs.length
  | [], _, e => by cases e; rfl
  | _ :: r, _, ⟨v, vs', e, _, c⟩ => by subst e; simp [RVs.len c]
theorem RVs.get : ∀ {l : List V} {vs : List Value}, RVs ρ l vs → ∀ {i : Nat} {x : V}, l[i]? = some x → ∃ v, vs[i]? = some v ∧ RV ρ x v
  | [], _, _, i, x, h => by simp at h
  | y :: r, _, ⟨v, vs', e, a, c⟩, i, x, h => by
    subst e
    cases i with
    | zero => simp at h; subst h; exact ⟨v, rfl, a⟩
    | succ i => simp at h; obtain ⟨u, hu, k⟩ := RVs.get c h; exact ⟨u, by simpa using hu, k⟩
theorem RVs.app : ∀ {l : List V} {vs : List Value} {m : List V} {us : List Value}, RVs ρ l vs → RVs ρ m us → RVs ρ (l ++ m) (vs ++ us)
  | [], _, _, _, e, h => by cases e; simpa using h
  | _ :: _, _, _, _, ⟨v, vs', e, a, c⟩, h => by subst e; exact ⟨v, _, rfl, a, RVs.app c h⟩
theorem RVs.of_get : ∀ {l : List V} {vs : List Value}, l.length = vs.length → (∀ (i : Nat) (x : V) (v : Value), l[i]? = some x → vs[i]? = some v → RV ρ x v) → RVs ρ l vs
  | [], vs, e, _ => by cases vs; rfl; simp at e
  | x :: r, [], e, _ => by simp at e
  | x :: r, v :: vs, e, h => ⟨v, vs, rfl, h 0 x v rfl rfl, RVs.of_get (by simpa using e) fun i y u hy hu => h (i + 1) y u (by simpa using hy) (by simpa using hu)⟩
theorem RVs.inv : ∀ {l : List V} {x : V} {vs : List Value}, RVs ρ (x :: l) vs → ∃ v vs', vs = v :: vs' ∧ RV ρ x v ∧ RVs ρ l vs' := fun h => h
end lists

theorem takeN_eq : ∀ (n : Nat) (l r : List V), takeN n l = some r → r = l.take n ∧ n ≤ l.length
  | 0, _, r, h => by simp [takeN] at h; simp [h]
  | n + 1, [], r, h => by simp [takeN] at h
  | n + 1, x :: l, r, h => by
    simp only [takeN] at h
    cases e : takeN n l with
    | none => simp [e, consTo] at h
    | some q =>
      obtain ⟨a, b⟩ := takeN_eq n l q e
      simp [e, consTo] at h
      subst h
      simp [a]; omega
theorem dropN_eq : ∀ (n : Nat) (l : List V), dropN n l = l.drop n
  | 0, _ => rfl
  | _ + 1, [] => rfl
  | n + 1, _ :: r => by simp [dropN, dropN_eq n r]
theorem sub_eq {l r : List V} {o n : Nat} (h : sub l o n = some r) : r = (l.drop o).take n ∧ (o + n ≤ l.length ∨ n = 0) := by
  unfold sub at h
  rw [dropN_eq] at h
  obtain ⟨a, b⟩ := takeN_eq _ _ _ h
  refine ⟨a, ?_⟩
  simp at b
  omega
theorem nth_eq (l : List V) (o : Nat) : nth l o = l[o]? := by
  unfold nth
  rw [dropN_eq]
  cases h : l.drop o with
  | nil => simp at h; simp [head?, List.getElem?_eq_none h]
  | cons x r =>
    have : (l.drop o)[0]? = some x := by rw [h]; rfl
    simp at this
    simp [head?, this]
theorem setCells_eq : ∀ (l : List V) (o : Nat) (vs r : List V), setCells l o vs = some r → o + vs.length ≤ l.length ∨ vs = []
  | l, o, [], _, _ => .inr rfl
  | [], _, _ :: _, r, h => by simp [setCells] at h
  | x :: l, 0, v :: vs, r, h => by
    simp only [setCells] at h
    cases e : setCells l 0 vs with
    | none => simp [e, consTo] at h
    | some q =>
      rcases setCells_eq l 0 vs q e with h' | h'
      · left; simp at *; omega
      · subst h'; left; simp
  | x :: l, o + 1, v :: vs, r, h => by
    simp only [setCells] at h
    cases e : setCells l o (v :: vs) with
    | none => simp [e, consTo] at h
    | some q =>
      rcases setCells_eq l o (v :: vs) q e with h' | h'
      · left; simp at *; omega
      · cases h'
theorem setCells_val : ∀ (l : List V) (o : Nat) (vs r : List V), setCells l o vs = some r → r = l.take o ++ vs ++ l.drop (o + vs.length) ∨ (vs = [] ∧ r = l)
  | l, o, [], r, h => by simp [setCells] at h; exact .inr ⟨rfl, h.symm⟩
  | [], _, _ :: _, r, h => by simp [setCells] at h
  | x :: l, 0, v :: vs, r, h => by
    simp only [setCells] at h
    cases e : setCells l 0 vs with
    | none => simp [e, consTo] at h
    | some q =>
      simp [e, consTo] at h
      subst h
      rcases setCells_val l 0 vs q e with h' | ⟨h', h''⟩
      · left; subst h'; simp
      · subst h' h''; left; simp
  | x :: l, o + 1, v :: vs, r, h => by
    simp only [setCells] at h
    cases e : setCells l o (v :: vs) with
    | none => simp [e, consTo] at h
    | some q =>
      simp [e, consTo] at h
      subst h
      rcases setCells_val l o (v :: vs) q e with h' | ⟨h', h''⟩
      · left; subst h'; simp only [List.take_succ_cons, List.cons_append, List.length_cons]; rw [show o + 1 + (vs.length + 1) = (o + (vs.length + 1)) + 1 by omega, List.drop_succ_cons]
      · cases h'
theorem setCells_get {l : List V} {o : Nat} {vs r : List V} (h : setCells l o vs = some r) :
    r.length = l.length ∧ (o + vs.length ≤ l.length ∨ vs = []) ∧ ∀ i, r[i]? = if o ≤ i ∧ i < o + vs.length then vs[i - o]? else l[i]? := by
  have a := setCells_eq l o vs r h
  rcases setCells_val l o vs r h with e | ⟨e, e'⟩
  · rcases a with a | a
    · subst e
      refine ⟨by simp; omega, .inl a, fun i => ?_⟩
      by_cases h1 : i < o
      · rw [List.append_assoc, List.getElem?_append_left (by simp; omega), if_neg (by omega)]
        simp [h1]
      · by_cases h2 : i < o + vs.length
        · rw [List.append_assoc, List.getElem?_append_right (by simp; omega), if_pos ⟨by omega, h2⟩, List.getElem?_append_left (by simp; omega)]
          congr 1; simp; omega
        · rw [if_neg (by omega), List.getElem?_append_right (by simp; omega)]
          simp
          congr 1; omega
    · subst a
      simp at e
      subst e
      exact ⟨rfl, .inr rfl, fun i => by rw [if_neg (by simp)]⟩
  · subst e e'
    exact ⟨rfl, .inr rfl, fun i => by rw [if_neg (by simp)]⟩

/-! temporaries -/
def RT (ρ : Rho) (nt : Nat) (T : Tr V) (tm : Array Value) : Prop := tm.size = nt ∧ ∀ t, RV ρ (getU (T.get t)) (tm.getD t undef)
theorem RT.mono {ρ ρ' : Rho} (h : Ext ρ ρ') {nt : Nat} {T : Tr V} {tm : Array Value} (r : RT ρ nt T tm) : RT ρ' nt T tm := ⟨r.1, fun t => (r.2 t).mono h⟩
theorem RT.put {ρ : Rho} {nt : Nat} {T T' : Tr V} {tm : Array Value} {x : V} {v : Value} {d : Option Nat} (r : RT ρ nt T tm) (h : put nt T x d = some T') (hv : RV ρ x v) :
    RT ρ nt T' (match d with | some d => tm.setIfInBounds d v | none => tm) := by
  cases d with
  | none => simp [Cv.put] at h; subst h; exact r
  | some d =>
    simp only [Cv.put] at h
    split at h
    · rename_i hlt
      injection h with h
      subst h
      have hd := of_blt hlt
      refine ⟨by simp [r.1], fun t => ?_⟩
      rw [Tr.get_set]
      by_cases e : t = d
      · subst e
        have : t < tm.size := by rw [r.1]; exact hd
        simpa [getU, this] using hv
      · rw [if_neg e]
        have := r.2 t
        simpa [Array.getElem?_setIfInBounds_ne (Ne.symm e)] using this
    · cases h

/-! operands -/
def evm (tm : Array Value) : Operand → Value
  | .tmp t => tm.getD t undef
  | .const v => v
  | .global g => .pointer (some ⟨g, 0, none⟩)
  | .func f => .func (.func f) #[] #[]
theorem ofVal1_rel (ρ : Rho) {v : Value} {x : V} (h : ofVal1 v = some x) : RV ρ x v := by
  unfold ofVal1 at h
  split at h <;> first | (cases h; done) | (injection h with h; subst h)
  all_goals first | exact rfl | skip
  · exact ⟨_, rfl, rfl⟩
  · exact ⟨_, rfl, rfl⟩
  · exact ⟨_, rfl, rfl⟩
theorem ofVals_rel (ρ : Rho) : ∀ {vs : List Value} {l : List V}, ofVals vs = some l → RVs ρ l vs
  | [], l, h => by simp [ofVals] at h; subst h; rfl
  | v :: r, l, h => by
    simp only [ofVals] at h
    cases e : ofVal1 v with
    | none => simp [e, cons?] at h
    | some x =>
      cases e' : ofVals r with
      | none => simp [e, e', cons?] at h
      | some q =>
        simp [e, e', cons?] at h
        subst h
        exact .cons (ofVal1_rel ρ e) (ofVals_rel ρ e')
theorem ofVal_rel (ρ : Rho) {v : Value} {x : V} (h : ofVal v = some x) : RV ρ x v := by
  unfold ofVal at h
  split at h
  · rename_i l
    cases e : ofVals l with
    | none => simp [e, agg?] at h
    | some q =>
      simp [e, agg?] at h
      subst h
      exact ⟨_, rfl, ofVals_rel ρ e⟩
  · exact ofVal1_rel ρ h
def Glob (ρ : Rho) : Prop := ∀ g, g < ng → ∃ n, ρ g = some (g, n)
theorem ev_rel {ρ : Rho} {nt : Nat} {T : Tr V} {tm : Array Value} {x : Operand} {v : V} (g : Glob ρ) (r : RT ρ nt T tm) (h : ev T x = some v) : RV ρ v (evm tm x) := by
  cases x with
  | tmp t => have h : some (getU (T.get t)) = some v := h; injection h with h; subst h; exact r.2 t
  | const c => exact ofVal_rel ρ h
  | global k =>
    have h : glob k = some v := h
    unfold glob at h
    split at h
    · rename_i hl
      injection h with h
      subst h
      obtain ⟨n, hn⟩ := g k (of_blt hl)
      exact ⟨k, n, hn, rfl⟩
    · cases h
  | func f => have h : some (V.fn f []) = some v := h; injection h with h; subst h; exact ⟨#[], rfl, rfl⟩
theorem evs_rel {ρ : Rho} {nt : Nat} {T : Tr V} {tm : Array Value} (g : Glob ρ) (r : RT ρ nt T tm) : ∀ {xs : List Operand} {l : List V}, evs T xs = some l → RVs ρ l (xs.map (evm tm))
  | [], l, h => by simp [evs] at h; subst h; rfl
  | x :: xs, l, h => by
    simp only [evs] at h
    cases e : ev T x with
    | none => simp [e, cons?] at h
    | some v =>
      cases e' : evs T xs with
      | none => simp [e, e', cons?] at h
      | some q =>
        simp [e, e', cons?] at h
        subst h
        exact .cons (ev_rel g r e) (evs_rel g r e')
end
end Go.Proofs.YtmikbfdpenggjaaGreatDoor.Cv
namespace Go.Proofs.YtmikbfdpenggjaaGreatDoor.Cv
open Go
noncomputable section

def O.own : O → Bool
  | .dead => false
  | .k _ => false
  | _ => true
def O.isDead : O → Bool
  | .dead => true
  | _ => false
theorem O.own_alive {o : O} (h : o.own = true) : o.isDead = false := by cases o <;> simp_all [O.own, O.isDead]
def RC (ρ : Rho) (l : List V) (cs : Array Value) : Prop := l.length ≤ cs.size ∧ ∀ (i : Nat) (x : V), l[i]? = some x → ∃ v, cs[i]? = some v ∧ RV ρ x v
theorem RC.mono {ρ ρ' : Rho} (h : Ext ρ ρ') {l : List V} {cs : Array Value} (r : RC ρ l cs) : RC ρ' l cs :=
  ⟨r.1, fun i x e => let ⟨v, a, b⟩ := r.2 i x e; ⟨v, a, b.mono h⟩⟩
/-- entries of a map -/
def REs (ρ : Rho) : List (V × V × Nat) → List MapEntry → Prop
  | [], es => es = []
  | (k, v, c) :: r, es => ∃ e es', es = e :: es' ∧ RV ρ k e.key ∧ RV ρ v e.val ∧ e.born = c ∧ REs ρ r es'
theorem REs.mono {ρ ρ' : Rho} (h : Ext ρ ρ') : ∀ {l : List (V × V × Nat)} {es : List MapEntry}, REs ρ l es → REs ρ' l es
  | [], _, e => e
  | (_, _, _) :: _, _, ⟨e, es', a, b, c, d, f⟩ => ⟨e, es', a, b.mono h, c.mono h, d, f.mono h⟩
def RO (ρ : Rho) (n : Nat) : O → Option Obj → Prop
  | .c l _, ob => ∃ cs e, ob = some (.cells cs e (0, 0)) ∧ cs.size = n ∧ RC ρ l cs
  | .k l, ob => ∃ cs e fz, ob = some (.cells cs e fz) ∧ RC ρ l cs
  | .m es c, ob => ∃ es' : Array MapEntry, ob = some (.map es' c) ∧ REs ρ es es'.toList
  | .si s pos, ob => ∃ b : ByteArray, ob = some (.stringIter b pos) ∧ byteL b.data.toList = s
  | .mi m since seen st, ob => ∃ m', ob = some (.mapIter m' since seen.toArray st) ∧ (match m with
    | none => m' = none
    | some x => ∃ b n, ρ x = some (b, n) ∧ m' = some b)
  | .lp st pend nt T ps a b d, ob => ∃ f tm r n, ob = some (.loop { state := st, pending := pend, fn := f, tmps := tm, params := ps.toArray, assign := a, body := b, defers := r }) ∧ ρ d = some (r, n) ∧ RT ρ nt T tm ∧ ∃ fn, Pg.funcs[f]? = some fn
  | .df, ob => ob = some (.deferred (some []))
  | .dead, _ => True
theorem RO.mono {ρ ρ' : Rho} (h : Ext ρ ρ') {n : Nat} {o : O} {ob : Option Obj} (r : RO ρ n o ob) : RO ρ' n o ob := by
  cases o with
  | c l e => obtain ⟨cs, e', a, b, c⟩ := r; exact ⟨cs, e', a, b, c.mono h⟩
  | k l => obtain ⟨cs, e', fz, a, c⟩ := r; exact ⟨cs, e', fz, a, c.mono h⟩
  | m es c => obtain ⟨es', a, b⟩ := r; exact ⟨es', a, b.mono h⟩
  | si s pos => exact r
  | mi m since seen st =>
    obtain ⟨m', a, b⟩ := r
    refine ⟨m', a, ?_⟩
    cases m with
    | none => exact b
    | some x => obtain ⟨c, n, e, f⟩ := b; exact ⟨c, n, h _ _ e, f⟩
  | lp st pend nt T ps a b d => obtain ⟨f, tm, r, n, e1, e2, e3, e4⟩ := r; exact ⟨f, tm, r, n, e1, h _ _ e2, e3.mono h, e4⟩
  | df => exact r
  | dead => trivial

abbrev Gt := Nat → Option O
structure RH (ρ : Rho) (h : Gt) (nx : Nat) (w : World) : Prop where
  obj : ∀ x o, h x = some o → o.isDead = false → ∃ b n, ρ x = some (b, n) ∧ RO ρ n o w.heap[b]?
  inj : ∀ x y o o' b n m, h x = some o → h y = some o' → o.own = true → o'.own = true → ρ x = some (b, n) → ρ y = some (b, m) → x = y
  kng : ∀ x o, h x = some o → o.isDead = false → o.own = false → x < ng
  big : ∀ x o b n, h x = some o → o.own = true → ρ x = some (b, n) → ng ≤ b
  fresh : ∀ x, nx ≤ x → ρ x = none
  lt : ∀ x b n, ρ x = some (b, n) → b < w.heap.size
  glob : Glob ρ
def Im (ρ : Rho) (h : Gt) (b : Nat) : Prop := ∃ x o n, h x = some o ∧ o.own = true ∧ ρ x = some (b, n)
/-- nothing was printed, and the system is as it was -/
def Like (w w' : World) : Prop := w'.os = w.os ∧ w'.output = w.output
theorem Like.refl (w : World) : Like w w := ⟨rfl, rfl⟩
theorem Like.trans {a b c : World} (h : Like a b) (h' : Like b c) : Like a c := ⟨h'.1.trans h.1, h'.2.trans h.2⟩
structure To (ρ : Rho) (h : Gt) (nx : Nat) (w : World) (ρ' : Rho) (h' : Gt) (nx' : Nat) (w' : World) : Prop where
  ext : Ext ρ ρ'
  old : ∀ x, x < nx → ρ' x = ρ x
  le : nx ≤ nx'
  size : w.heap.size ≤ w'.heap.size
  im : ∀ b, Im ρ' h' b → Im ρ h b ∨ w.heap.size ≤ b
  keep : ∀ b, b < w.heap.size → ¬ Im ρ h b → w'.heap[b]? = w.heap[b]?
  lk : Like w w'
theorem To.refl (ρ : Rho) (h : Gt) (nx : Nat) (w : World) : To ρ h nx w ρ h nx w :=
  ⟨.refl _, fun _ _ => rfl, Nat.le_refl _, Nat.le_refl _, fun _ i => .inl i, fun _ _ _ => rfl, .refl _⟩
theorem To.trans {ρ : Rho} {h : Gt} {nx : Nat} {w : World} {ρ₁ : Rho} {h₁ : Gt} {nx₁ : Nat} {w₁ : World} {ρ₂ : Rho} {h₂ : Gt} {nx₂ : Nat} {w₂ : World}
    (a : To ρ h nx w ρ₁ h₁ nx₁ w₁) (b : To ρ₁ h₁ nx₁ w₁ ρ₂ h₂ nx₂ w₂) : To ρ h nx w ρ₂ h₂ nx₂ w₂ where
  ext := a.ext.trans b.ext
  old x hx := by rw [b.old x (Nat.lt_of_lt_of_le hx a.le), a.old x hx]
  le := Nat.le_trans a.le b.le
  size := Nat.le_trans a.size b.size
  im c hc := by
    rcases b.im c hc with h | h
    · exact a.im c h
    · exact .inr (Nat.le_trans a.size h)
  keep c hc hn := by
    rw [b.keep c (Nat.lt_of_lt_of_le hc a.size) fun i => (a.im c i).elim hn (fun h => Nat.lt_irrefl _ (Nat.lt_of_lt_of_le hc h)), a.keep c hc hn]
  lk := a.lk.trans b.lk

/-- the worlds differ in one block at most -/
structure Upd (w w' : World) (b : Nat) (ob : Obj) : Prop where
  size : w'.heap.size = w.heap.size
  at_ : w'.heap[b]? = some ob
  other : ∀ c, c ≠ b → w'.heap[c]? = w.heap[c]?
  lk : Like w w'
def updG (h : Gt) (x : Nat) (o : O) : Gt := fun y => if y = x then some o else h y
theorem get_set_fun (H : Hp) (x : Nat) (o : O) : (H.set x o).get = updG H.get x o := funext fun y => Hp.get_set H x y o
theorem get_new_fun (H : Hp) (o : O) : (H.new o).get = updG H.get H.nx o := funext fun y => Hp.get_new H y o

section
variable {ρ : Rho} {h : Gt} {nx : Nat} {w w' : World}
theorem RH.apart (r : RH ρ h nx w) {x y b n m : Nat} {o o' : O} (hx : h x = some o) (hy : h y = some o') (ho : o.own = true) (hd : o'.isDead = false) (h1 : ρ x = some (b, n)) (h2 : ρ y = some (b, m)) : x = y := by
  cases e : o'.own with
  | true => exact r.inj x y o o' b n m hx hy ho e h1 h2
  | false =>
    have hl := r.kng y o' hy hd e
    obtain ⟨q, hq⟩ := r.glob y hl
    rw [h2] at hq
    injection hq with hq
    injection hq with hq _
    have := r.big x o b n hx ho h1
    omega
theorem RH.room (r : RH ρ h nx w) : ng ≤ w.heap.size := by
  obtain ⟨n, hn⟩ := r.glob 2 (by decide)
  have := r.lt _ _ _ hn
  show 3 ≤ _
  omega
/-- the heap is the same -/
theorem RH.same (r : RH ρ h nx w) (e : w'.heap = w.heap) (lk : Like w w' := by exact ⟨rfl, rfl⟩) : RH ρ h nx w' ∧ To ρ h nx w ρ h nx w' := by
  refine ⟨⟨?_, r.inj, r.kng, r.big, r.fresh, ?_, r.glob⟩, ⟨.refl _, fun _ _ => rfl, Nat.le_refl _, by rw [e]; exact Nat.le_refl _, fun _ i => .inl i, fun _ _ _ => by rw [e], lk⟩⟩
  · rw [e]; exact r.obj
  · rw [e]; exact r.lt
/-- an object is changed -/
theorem RH.upd (r : RH ρ h nx w) {x b n : Nat} {o o' : O} {ob : Obj} (hx : h x = some o) (ho : o.own = true) (hb : ρ x = some (b, n)) (u : Upd w w' b ob)
    (ho' : o'.own = true ∨ o'.isDead = true) (hr : RO ρ n o' (some ob)) : RH ρ (updG h x o') nx w' ∧ To ρ h nx w ρ (updG h x o') nx w' := by
  constructor
  · refine ⟨?_, ?_, ?_, ?_, r.fresh, ?_, r.glob⟩
    · intro y p hy hd
      unfold updG at hy
      split at hy
      · rename_i e
        injection hy with hy
        subst e hy
        exact ⟨b, n, hb, by rw [u.at_]; exact hr⟩
      · rename_i e
        obtain ⟨c, m, h1, h2⟩ := r.obj y p hy hd
        refine ⟨c, m, h1, ?_⟩
        rw [u.other c fun ec => e (by subst ec; exact (r.apart hx hy ho hd hb h1).symm)]
        exact h2
    · intro y z p q c n' m hy hz hp hq h1 h2
      unfold updG at hy hz
      split at hy <;> split at hz
      · rename_i e1 e2; rw [e1, e2]
      · rename_i e1 e2
        subst e1
        exact r.inj y z o q c n' m hx hz ho hq h1 h2
      · rename_i e1 e2
        subst e2
        exact r.inj y z p o c n' m hy hx hp ho h1 h2
      · exact r.inj y z p q c n' m hy hz hp hq h1 h2
    · intro y p hy hd hn
      unfold updG at hy
      split at hy
      · injection hy with hy
        subst hy
        rcases ho' with ho' | ho'
        · rw [ho'] at hn; cases hn
        · rw [ho'] at hd; cases hd
      · exact r.kng y p hy hd hn
    · intro y p c m hy hp h1
      unfold updG at hy
      split at hy
      · rename_i e
        subst e
        exact r.big y o c m hx ho h1
      · exact r.big y p c m hy hp h1
    · intro y c m hy
      rw [u.size]
      exact r.lt y c m hy
  · refine ⟨.refl _, fun _ _ => rfl, Nat.le_refl _, by rw [u.size]; exact Nat.le_refl _, ?_, ?_, u.lk⟩
    · rintro c ⟨y, p, m, hy, hp, e⟩
      left
      unfold updG at hy
      split at hy
      · rename_i e1
        subst e1
        exact ⟨y, o, m, hx, ho, e⟩
      · exact ⟨y, p, m, hy, hp, e⟩
    · intro c _ hn
      exact u.other c fun e => hn ⟨x, o, n, hx, ho, by rw [e]; exact hb⟩
def updR (ρ : Rho) (x b n : Nat) : Rho := fun y => if y = x then some (b, n) else ρ y
theorem ext_updR {x b n : Nat} (hx : ρ x = none) : Ext ρ (updR ρ x b n) := by
  intro y p hy
  unfold updR
  split
  · rename_i e; subst e; rw [hx] at hy; cases hy
  · exact hy
/-- a new object under a name -/
theorem RH.addRH (r : RH ρ h nx w) {x n nx' : Nat} {o : O} {ob : Obj} (hx : ρ x = none) (hn : nx ≤ nx') (hxn : x < nx') (how : o.own = true)
    (hw : w'.heap = w.heap.push ob) (hr : RO (updR ρ x w.heap.size n) n o (some ob)) :
    RH (updR ρ x w.heap.size n) (updG h x o) nx' w' := by
  have ex := ext_updR (b := w.heap.size) (n := n) hx
  have hsz : w'.heap.size = w.heap.size + 1 := by rw [hw]; simp
  have hold' : ∀ c, c < w.heap.size → w'.heap[c]? = w.heap[c]? := by
    intro c hc
    rw [hw, Array.getElem?_push_lt hc, Array.getElem?_eq_getElem hc]
  have hat : w'.heap[w.heap.size]? = some ob := by rw [hw]; simp
  refine ⟨?_, ?_, ?_, ?_, ?_, ?_, ?_⟩
  · intro y p hy hd
    unfold updG at hy
    split at hy
    · rename_i e
      injection hy with hy
      subst e hy
      exact ⟨w.heap.size, n, by simp [updR], by rw [hat]; exact hr⟩
    · rename_i e
      obtain ⟨c, m, h1, h2⟩ := r.obj y p hy hd
      refine ⟨c, m, ex _ _ h1, ?_⟩
      rw [hold' c (r.lt _ _ _ h1)]
      exact h2.mono ex
  · intro y z p q c n' m hy hz hp hq h1 h2
    unfold updG at hy hz
    unfold updR at h1 h2
    split at hy <;> split at hz
    · rename_i e1 e2; rw [e1, e2]
    · rename_i e1 e2
      rw [if_pos e1] at h1
      rw [if_neg e2] at h2
      injection h1 with h1
      injection h1 with h1 _
      have := r.lt _ _ _ h2
      omega
    · rename_i e1 e2
      rw [if_neg e1] at h1
      rw [if_pos e2] at h2
      injection h2 with h2
      injection h2 with h2 _
      have := r.lt _ _ _ h1
      omega
    · rename_i e1 e2
      rw [if_neg e1] at h1
      rw [if_neg e2] at h2
      exact r.inj y z p q c n' m hy hz hp hq h1 h2
  · intro y p hy hd hn'
    unfold updG at hy
    split at hy
    · injection hy with hy; subst hy; rw [how] at hn'; cases hn'
    · exact r.kng y p hy hd hn'
  · intro y p c m hy hp h1
    unfold updG at hy
    unfold updR at h1
    split at hy
    · rename_i e
      rw [if_pos e] at h1
      injection h1 with h1; injection h1 with h1 _
      have := r.room
      omega
    · rename_i e
      rw [if_neg e] at h1
      exact r.big y p c m hy hp h1
  · intro y hy
    unfold updR
    rw [if_neg (by omega)]
    exact r.fresh y (by omega)
  · intro y c m hy
    unfold updR at hy
    split at hy
    · injection hy with hy; injection hy with hy _; omega
    · have := r.lt _ _ _ hy; omega
  · intro g hg
    obtain ⟨m, hm⟩ := r.glob g hg
    exact ⟨m, ex _ _ hm⟩
theorem RH.add (r : RH ρ h nx w) {x n nx' : Nat} {o : O} {ob : Obj} (hx : ρ x = none) (hn : nx ≤ nx') (hxn : x < nx') (hold : x < nx → False) (how : o.own = true)
    (hw : w'.heap = w.heap.push ob) (hr : RO (updR ρ x w.heap.size n) n o (some ob)) (lk : Like w w' := by exact ⟨rfl, rfl⟩) :
    RH (updR ρ x w.heap.size n) (updG h x o) nx' w' ∧ To ρ h nx w (updR ρ x w.heap.size n) (updG h x o) nx' w' := by
  have ex := ext_updR (b := w.heap.size) (n := n) hx
  have hsz : w'.heap.size = w.heap.size + 1 := by rw [hw]; simp
  have hold' : ∀ c, c < w.heap.size → w'.heap[c]? = w.heap[c]? := by
    intro c hc
    rw [hw, Array.getElem?_push_lt hc, Array.getElem?_eq_getElem hc]
  have hat : w'.heap[w.heap.size]? = some ob := by rw [hw]; simp
  refine ⟨r.addRH hx hn hxn how hw hr, ?_⟩
  · refine ⟨ex, ?_, hn, by omega, ?_, fun c hc _ => hold' c hc, lk⟩
    · intro y hy
      unfold updR
      rw [if_neg (fun e : y = x => hold (e ▸ hy))]
    · rintro c ⟨y, p, m, hy, hp, e⟩
      unfold updG at hy
      unfold updR at e
      split at hy
      · rename_i e1
        rw [if_pos e1] at e
        injection e with e; injection e with e _
        right; omega
      · rename_i e1
        rw [if_neg e1] at e
        exact .inl ⟨y, p, m, hy, hp, e⟩
/-- a block changes its name: the old one is dead -/
theorem RH.move (r : RH ρ h nx w) {x b n : Nat} {o o' : O} {ob : Obj} (hx : h x = some o) (ho : o.own = true) (hb : ρ x = some (b, n)) (u : Upd w w' b ob)
    (ho' : o'.own = true) (hr : RO (updR ρ nx b n) n o' (some ob)) :
    RH (updR ρ nx b n) (updG (updG h x .dead) nx o') (nx + 1) w' ∧ To ρ h nx w (updR ρ nx b n) (updG (updG h x .dead) nx o') (nx + 1) w' := by
  have hnx : ρ nx = none := r.fresh nx (Nat.le_refl _)
  have ex := ext_updR (b := b) (n := n) hnx
  have hxn : x ≠ nx := fun e => by rw [e, hnx] at hb; cases hb
  constructor
  · refine ⟨?_, ?_, ?_, ?_, ?_, ?_, ?_⟩
    · intro y p hy hd
      unfold updG at hy
      split at hy
      · rename_i e
        injection hy with hy
        subst e hy
        exact ⟨b, n, by simp [updR], by rw [u.at_]; exact hr⟩
      · split at hy
        · injection hy with hy; subst hy; simp [O.isDead] at hd
        · rename_i e e2
          obtain ⟨c, m, h1, h2⟩ := r.obj y p hy hd
          refine ⟨c, m, ex _ _ h1, ?_⟩
          rw [u.other c fun ec => e2 (by subst ec; exact (r.apart hx hy ho hd hb h1).symm)]
          exact h2.mono ex
    · intro y z p q c n' m hy hz hp hq h1 h2
      unfold updG at hy hz
      unfold updR at h1 h2
      split at hy <;> split at hz
      · rename_i e1 e2; rw [e1, e2]
      · rename_i e1 e2
        rw [if_pos e1] at h1
        rw [if_neg e2] at h2
        split at hz
        · injection hz with hz; subst hz; simp [O.own] at hq
        · rename_i e3
          injection h1 with h1
          injection h1 with h1 _
          subst h1
          exact absurd (r.inj x z o q b n m hx hz ho hq hb h2).symm e3
      · rename_i e1 e2
        rw [if_neg e1] at h1
        rw [if_pos e2] at h2
        split at hy
        · injection hy with hy; subst hy; simp [O.own] at hp
        · rename_i e3
          injection h2 with h2
          injection h2 with h2 _
          subst h2
          exact absurd (r.inj y x p o b n' n hy hx hp ho h1 hb) e3
      · rename_i e1 e2
        rw [if_neg e1] at h1
        rw [if_neg e2] at h2
        split at hy
        · injection hy with hy; subst hy; simp [O.own] at hp
        · split at hz
          · injection hz with hz; subst hz; simp [O.own] at hq
          · exact r.inj y z p q c n' m hy hz hp hq h1 h2
    · intro y p hy hd hn'
      unfold updG at hy
      split at hy
      · injection hy with hy; subst hy; rw [ho'] at hn'; cases hn'
      · split at hy
        · injection hy with hy; subst hy; simp [O.isDead] at hd
        · exact r.kng y p hy hd hn'
    · intro y p c m hy hp h1
      unfold updG at hy
      unfold updR at h1
      split at hy
      · rename_i e
        rw [if_pos e] at h1
        injection h1 with h1; injection h1 with h1 _
        subst h1
        exact r.big x o b n hx ho hb
      · rename_i e
        rw [if_neg e] at h1
        split at hy
        · injection hy with hy; subst hy; simp [O.own] at hp
        · exact r.big y p c m hy hp h1
    · intro y hy
      unfold updR
      rw [if_neg (by omega)]
      exact r.fresh y (by omega)
    · intro y c m hy
      rw [u.size]
      unfold updR at hy
      split at hy
      · injection hy with hy; injection hy with hy _; subst hy; exact r.lt _ _ _ hb
      · exact r.lt _ _ _ hy
    · intro g hg
      obtain ⟨m, hm⟩ := r.glob g hg
      exact ⟨m, ex _ _ hm⟩
  · refine ⟨ex, ?_, by omega, by rw [u.size]; exact Nat.le_refl _, ?_, ?_, u.lk⟩
    · intro y hy
      unfold updR
      rw [if_neg (by omega)]
    · rintro c ⟨y, p, m, hy, hp, e⟩
      left
      unfold updG at hy
      unfold updR at e
      split at hy
      · rename_i e1
        rw [if_pos e1] at e
        injection e with e; injection e with e _
        subst e
        exact ⟨x, o, n, hx, ho, hb⟩
      · rename_i e1
        rw [if_neg e1] at e
        split at hy
        · injection hy with hy; subst hy; simp [O.own] at hp
        · exact ⟨y, p, m, hy, hp, e⟩
    · intro c _ hn
      exact u.other c fun e => hn ⟨x, o, n, hx, ho, by rw [e]; exact hb⟩
/-- less is known -/
theorem RH.less (r : RH ρ h nx w) {h' : Gt} (hh : ∀ x o, h' x = some o → o.isDead = false → h x = some o) : RH ρ h' nx w :=
  ⟨fun x o e d => r.obj x o (hh x o e d) d, fun x y o o' b n m hx hy ho hd h1 h2 => r.inj x y o o' b n m (hh x o hx (O.own_alive ho)) (hh y o' hy (O.own_alive hd)) ho hd h1 h2, fun x o e d => r.kng x o (hh x o e d) d, fun x o b n e d => r.big x o b n (hh x o e (O.own_alive d)) d, r.fresh, r.lt, r.glob⟩
theorem To.kill {ρ' : Rho} {h' : Gt} {nx' : Nat} {x : Nat} (t : To ρ h nx w ρ' h' nx' w') : To ρ h nx w ρ' (updG h' x .dead) nx' w' :=
  ⟨t.ext, t.old, t.le, t.size, fun b ⟨y, p, m, hy, hp, e⟩ => t.im b (by
    unfold updG at hy
    split at hy
    · injection hy with hy; subst hy; simp [O.own] at hp
    · exact ⟨y, p, m, hy, hp, e⟩), t.keep, t.lk⟩
theorem upd_setRow {b : Nat} {cs : Array Value} {t : TypeId} {fz : Nat × Nat} (cs' : Array Value) (hg : w.heap[b]? = some (.cells cs t fz)) : Upd w (w.setRow b cs') b (.cells cs' t fz) := by
  refine ⟨?_, setRow_heap w b cs cs' t fz hg, ?_, ⟨rfl, rfl⟩⟩
  · simp [World.setRow]
  · intro c hc
    simp [World.setRow, Array.getElem?_modify, Ne.symm hc]
theorem upd_set {b : Nat} {o : Obj} (ob : Obj) (hg : w.heap[b]? = some o) : Upd w { w with heap := w.heap.setIfInBounds b ob } b ob := by
  have : b < w.heap.size := (Array.getElem?_eq_some_iff.1 hg).1
  refine ⟨by simp, by simp [this], ?_, ⟨rfl, rfl⟩⟩
  intro c hc
  simp [Array.getElem?_setIfInBounds_ne (Ne.symm hc)]
end
end
end Go.Proofs.YtmikbfdpenggjaaGreatDoor.Cv
namespace Go.Proofs.YtmikbfdpenggjaaGreatDoor.Cv
open Go
noncomputable section

structure PgOk : Prop where
  zero : ∀ t i z, t < nT → Pg.info? t = some i → i.zero = some z → z.cells.size = i.size
  elem : ∀ t e i, t < nT → Pg.underlying t = some (.slice e) → Pg.info? e = some i → e < nT ∧ ∃ z, i.zero = some z
  fields : ∀ t fs, t < nT → Pg.underlying t = some (.struct fs) → ∀ f ∈ fs.toList, ∃ i, Pg.info? f.type = some i
  name : ∀ (f : Nat) (fn : Func), Pg.funcs[f]? = some fn → (fn.name == "runtime.NumGoroutine") = false
  mixed : Pg.follows .mixedOrders = true
  ov : ∃ tS tR e n, Pg.underlying tS = some (.slice e) ∧ siz e = some n ∧ ∀ args w, (callFunc ovF args).run Pg w = ((Extern.SlicesOverlaps.overlaps #[tS, tS] #[tR] args).run Pg w).andThen fun v w' => .ok (.value v) w'

def NV (nv : Next) (v : Value) : Prop := nv = .value v ∨ (nv = .skip ∧ v = undef)
/-- deferred calls -/
def RDf (ρ : Rho) : Df → Deferred → Prop
  | .fn f l, d => ∃ cs vs : List Value, d = { target := .fn (.func f) cs.toArray, args := vs.toArray } ∧ RVs ρ l (vs ++ cs)
  | .coll x, d => ∃ b n, ρ x = some (b, n) ∧ d = { target := .collected b, args := #[] }
/-- what an operation gives -/
def OpOk (ρ : Rho) (H : Hp) (w : World) (run : Result Next) : R → Prop
  | .v x => ∃ nv v w', run = .ok nv w' ∧ NV nv v ∧ RV ρ x v ∧ RH ρ H.get H.nx w' ∧ To ρ H.get H.nx w ρ H.get H.nx w'
  | .h x H' => ∃ ρ' nv v w', run = .ok nv w' ∧ NV nv v ∧ RV ρ' x v ∧ RH ρ' H'.get H'.nx w' ∧ To ρ H.get H.nx w ρ' H'.get H'.nx w'
  | .call f args => ∃ vs : List Value, RVs ρ args vs ∧ ∀ fn c, Pg.funcs[f]? = some fn → fn.body = some c → run = .ok (.enter f vs.toArray) w
  | .yield x args => ∃ (vs : List Value) (b n : Nat), ρ x = some (b, n) ∧ RVs ρ args vs ∧ run = (Instr.yield b vs.toArray).run Pg w
  | .dfr d => ∃ df, run = .ok (.defer df) w ∧ RDf ρ d df
  | .recv => run = .ok .recover w
  | .pan x => ∃ v, run = .halt (.panic v) w ∧ RV ρ x v

section
variable {ρ : Rho} {H : Hp} {w : World} {nt : Nat} {T : Tr V} {tm : Array Value}
theorem OpOk.pure {run : Result Next} {x : V} {v : Value} (r : RH ρ H.get H.nx w) (e : run = .ok (.value v) w) (h : RV ρ x v) : OpOk ρ H w run (.v x) :=
  ⟨_, v, w, e, .inl rfl, h, r, .refl ..⟩
theorem val_some {a : Option V} {r : R} (h : val a = some r) : ∃ v, a = some v ∧ r = .v v := by
  cases a with
  | none => cases h
  | some v => injection h with h; exact ⟨v, rfl, h.symm⟩
theorem asP_some {v : V} {x o : Nat} (h : asP v = some (x, o)) : v = .p x o := by
  cases v <;> first | (cases h; done) | (injection h with h; injection h with h1 h2; subst h1 h2; rfl)
theorem asI_some {v : V} {k : IntKind} {n : Int} (h : asI v = some (k, n)) : v = .i k n := by
  cases v <;> first | (cases h; done) | (injection h with h; injection h with h1 h2; subst h1 h2; rfl)
theorem asB_some {v : V} {x : Bool} (h : asB v = some x) : v = .b x := by
  cases v <;> first | (cases h; done) | (injection h with h; subst h; rfl)
theorem asS_some {v : V} {l : List Nat} (h : asS v = some l) : v = .s l := by
  cases v <;> first | (cases h; done) | (injection h with h; subst h; rfl)
theorem asTup_some {v : V} {l : List V} (h : asTup v = some l) : v = .tup l := by
  cases v <;> first | (cases h; done) | (injection h with h; subst h; rfl)
theorem asFn_some {v : V} {f : Nat} {l : List V} (h : asFn v = some (f, l)) : v = .fn f l := by
  cases v <;> first | (cases h; done) | (injection h with h; injection h with h1 h2; subst h1 h2; rfl)
theorem und_eq (t : TypeId) : und t = Pg.underlying t := rfl
theorem siz_some {t : TypeId} {n : Nat} (h : siz t = some n) : ∃ i, Pg.info? t = some i ∧ i.size = n := by
  unfold siz at h
  split at h
  · rename_i i e; injection h with h; exact ⟨i, e, h⟩
  · cases h
theorem run_und {α : Type} {t : TypeId} {d : TypeDesc} (h : und t = some d) (k : TypeDesc → Sem α) : ((underlying t) >>= k).run Pg w = (k d).run Pg w := by
  have h : Pg.underlying t = some d := h
  simp [underlying, h]
theorem run_siz {α : Type} {t : TypeId} {n : Nat} (h : siz t = some n) (k : Nat → Sem α) : ((Go.sizeOf t) >>= k).run Pg w = (k n).run Pg w := by
  obtain ⟨i, e, rfl⟩ := siz_some h
  simp [Go.sizeOf, typeInfo, e]
theorem isAgg_some {t : TypeId} {b : Bool} (h : isAgg t = some b) : (Go.isAgg t).run Pg w = .ok b w := by
  unfold isAgg at h
  rw [und_eq] at h
  cases e : Pg.underlying t with
  | none => rw [e] at h; cases h
  | some d =>
    rw [e] at h
    cases d <;> simp [aggOf] at h <;> subst h <;> simp [Go.isAgg, underlying, e]
theorem zeroV_some {t : TypeId} {z : V} (h : zeroV t = some z) : ∃ i v, Pg.info? t = some i ∧ i.zero = some v ∧ ofVal v = some z := by
  unfold zeroV at h
  split at h
  · unfold zeroOf at h
    split at h
    · rename_i i e
      split at h
      · rename_i v e'; exact ⟨i, v, e, e', h⟩
      · cases h
    · cases h
  · cases h
theorem zeroV_lt {t : TypeId} {z : V} (h : zeroV t = some z) : t < nT := by
  unfold zeroV at h
  split at h
  · rename_i e; exact of_blt e
  · cases h
theorem cells_rc {x : V} {v : Value} (h : RV ρ x v) : RC ρ x.cells v.cells := by
  cases x with
  | agg l =>
    obtain ⟨cs, rfl, k⟩ := h
    refine ⟨by have := k.len; simp [V.cells, Value.cells]; rw [this]; simp, fun i y e => ?_⟩
    obtain ⟨u, hu, hr⟩ := k.get e
    exact ⟨u, by simpa [Value.cells] using hu, hr⟩
  | un => exact ⟨Nat.zero_le _, fun i y e => by simp [V.cells] at e⟩
  | _ =>
    refine ⟨?_, fun i y e => ?_⟩
    all_goals (
      have hc : v.cells = #[v] := by
        simp only [RV] at h
        first
          | (subst h; rfl)
          | (obtain ⟨_, rfl, _⟩ := h; rfl)
          | (obtain ⟨_, _, _, rfl⟩ := h; rfl)
          | (obtain ⟨_, _, rfl⟩ := h; rfl)
          | (obtain ⟨_, _, _, _, rfl, _⟩ := h; rfl)
      rw [hc])
    · simp [V.cells]
    · cases i with
      | zero => simp [V.cells] at e; subst e; exact ⟨v, rfl, h⟩
      | succ i => simp [V.cells] at e
theorem cells_rvs {x : V} {v : Value} {n : Nat} (h : RV ρ x v) (hn : x.cells.length = n + 1) : RVs ρ x.cells v.cells.toList := by
  cases x with
  | agg l => obtain ⟨cs, rfl, k⟩ := h; exact k
  | un => simp [V.cells] at hn
  | _ =>
    have hc : v.cells = #[v] := by
      simp only [RV] at h
      first
        | (subst h; rfl)
        | (obtain ⟨_, rfl, _⟩ := h; rfl)
        | (obtain ⟨_, _, _, rfl⟩ := h; rfl)
        | (obtain ⟨_, _, rfl⟩ := h; rfl)
        | (obtain ⟨_, _, _, _, rfl, _⟩ := h; rfl)
    rw [hc]
    exact .one h

/-! integers -/
theorem wrap_id (k : IntKind) (n : Int) (h0 : 0 ≤ n) (h : n ≤ topI k) : k.wrap n = n := by
  cases k <;> simp only [topI] at h <;> simp only [IntKind.wrap, IntKind.bits, IntKind.signed, Bool.true_and, Bool.false_and, Bool.false_eq_true, if_false] <;>
    first
      | omega
      | (split
         · rename_i hc; have hc := of_decide_eq_true hc; simp at hc; omega
         · omega)
theorem wrap_i64 (n : Int) : IntKind.i64.wrap n = if n % 18446744073709551616 ≥ 9223372036854775808 then n % 18446744073709551616 - 18446744073709551616 else n % 18446744073709551616 := by
  simp [IntKind.wrap, IntKind.bits, IntKind.signed]
theorem wrapI_eq (k : IntKind) (n : Int) : wrapI k n = k.wrap n := by
  cases n with
  | ofNat a =>
    show (match Nat.ble a (topI k) with | true => Int.ofNat a | false => k.wrap (.ofNat a)) = _
    split
    · rename_i h
      have h := of_ble h
      exact (wrap_id k _ (Int.natCast_nonneg a) (Int.ofNat_le.2 h)).symm
    · rfl
  | negSucc a =>
    cases k with
    | i64 =>
      show (match Nat.ble a 9223372036854775807 with | true => Int.negSucc a | false => IntKind.i64.wrap (.negSucc a)) = _
      split
      · rename_i h
        have h := of_ble h
        have e : Int.negSucc a = -(a : Int) - 1 := by omega
        rw [e]
        clear e
        rw [wrap_i64]
        split <;> omega
      · rfl
    | _ => simp only [wrapI]
theorem beq_dec (a b : Nat) : Nat.beq a b = decide (a = b) := by
  by_cases h : a = b
  · simp [h]
  · simp [h, beq_f h]
theorem blt_dec (a b : Nat) : Nat.blt a b = decide (a < b) := by
  cases e : Nat.blt a b
  · have := of_blt_f e; simp; omega
  · have := of_blt e; simp [this]
theorem eqI_eq (a b : Int) : eqI a b = decide (a = b) := by
  cases a <;> cases b <;> simp [eqI, Int.negSucc_eq, beq_dec]
  all_goals omega
theorem ltI_eq (a b : Int) : ltI a b = decide (a < b) := by
  cases a <;> cases b <;> simp [ltI, Int.negSucc_eq, blt_dec]
  all_goals omega
theorem eqK_eq {a b : IntKind} (h : eqK a b = true) : a = b := by cases a <;> cases b <;> first | rfl | (simp [eqK] at h)
theorem eqK_refl (a : IntKind) : eqK a a = true := by cases a <;> rfl
theorem byteL_eq (l : List UInt8) : byteL l = l.map (·.toNat) := by
  induction l with
  | nil => rfl
  | cons x r ih => simp [byteL, ih]
theorem byteL_inj : ∀ {a b : List UInt8}, byteL a = byteL b → a = b
  | [], [], _ => rfl
  | [], _ :: _, h => by simp [byteL] at h
  | _ :: _, [], h => by simp [byteL] at h
  | x :: a, y :: b, h => by
    simp [byteL] at h
    rw [UInt8.toNat_inj.1 h.1, byteL_inj h.2]
theorem eqS_eq : ∀ (a b : List Nat), eqS a b = decide (a = b)
  | [], [] => by simp [eqS]
  | [], _ :: _ => by simp [eqS]
  | _ :: _, [] => by simp [eqS]
  | x :: a, y :: b => by
    simp only [eqS]
    split
    · rename_i h; have h := of_beq h; subst h; simp [eqS_eq a b]
    · rename_i h; have h := of_beq_f h; simp [h]
theorem eqS_bytes {s t : ByteArray} : eqS (byteL s.data.toList) (byteL t.data.toList) = (s.toList == t.toList) := by
  rw [eqS_eq, ByteArray.toList_eq, ByteArray.toList_eq]
  by_cases h : s.data.toList = t.data.toList
  · simp [h]
  · have : byteL s.data.toList ≠ byteL t.data.toList := fun e => h (byteL_inj e)
    simp only [this, decide_false]
    exact (beq_eq_false_iff_ne.2 h).symm
theorem ltS_bytes : ∀ (a b : List UInt8), ltS (byteL a) (byteL b) = Op.bytesLess a b
  | [], [] => rfl
  | _ :: _, [] => rfl
  | [], _ :: _ => rfl
  | x :: a, y :: b => by
    simp only [byteL, ltS, Op.bytesLess]
    split
    · rename_i h; have h := of_blt h
      have : x < y := UInt8.lt_iff_toNat_lt.2 h
      simp [this]
    · rename_i h; have h := of_blt_f h
      have h1 : ¬ x < y := fun e => by have := UInt8.lt_iff_toNat_lt.1 e; omega
      simp only [h1, decide_false, Bool.false_or]
      split
      · rename_i h2; have h2 := of_beq h2
        have : x = y := UInt8.toNat_inj.1 h2
        simp [this, ltS_bytes a b]
      · rename_i h2; have h2 := of_beq_f h2
        have : x ≠ y := fun e => h2 (by rw [e])
        simp [this]
end
end
end Go.Proofs.YtmikbfdpenggjaaGreatDoor.Cv
namespace Go.Proofs.YtmikbfdpenggjaaGreatDoor.Cv
open Go
noncomputable section
section
variable {ρ : Rho} {H : Hp} {w : World} {nt : Nat} {T : Tr V} {tm : Array Value} {o : Oper} {res : R}

theorem ok_move (r : RH ρ H.get H.nx w) (t : RT ρ nt T tm) {x : Operand} (ho : o.op = .move x ∨ o.op = .assign x) (h : val (ev T x) = some res) :
    OpOk ρ H w ((execOp (evm tm) o).run Pg w) res := by
  obtain ⟨v, e, rfl⟩ := val_some h
  exact .pure r (by rcases ho with ho | ho <;> simp [execOp, ho]) (ev_rel r.glob t e)
theorem ok_pick (r : RH ρ H.get H.nx w) (t : RT ρ nt T tm) {c a b : Operand} (ho : o.op = .pick c a b) (h : opPick (ev T a) (ev T b) (ev T c) = some res) :
    OpOk ρ H w ((execOp (evm tm) o).run Pg w) res := by
  cases ec : ev T c with
  | none => rw [ec] at h; cases h
  | some cv =>
    rw [ec] at h
    have h : pickB (ev T a) (ev T b) (asB cv) = some res := h
    cases eb : asB cv with
    | none => rw [eb] at h; cases h
    | some x =>
      rw [eb] at h
      have hc := ev_rel r.glob t ec
      rw [asB_some eb] at hc
      have hc : evm tm c = .bool x := hc
      cases x with
      | true => obtain ⟨v, e, rfl⟩ := val_some h; exact .pure r (by simp [execOp, ho, hc, asBool]) (ev_rel r.glob t e)
      | false => obtain ⟨v, e, rfl⟩ := val_some h; exact .pure r (by simp [execOp, ho, hc, asBool]) (ev_rel r.glob t e)
theorem ok_nil (r : RH ρ H.get H.nx w) (t : RT ρ nt T tm) {x : Operand} (ho : o.op = .nilCheck x) (h : opNil (ev T x) = some res) :
    OpOk ρ H w ((execOp (evm tm) o).run Pg w) res := by
  cases e : ev T x with
  | none => rw [e] at h; cases h
  | some v =>
    rw [e] at h
    have hv := ev_rel r.glob t e
    have key : res = .v v ∧ (execOp (evm tm) o).run Pg w = .ok (.value (evm tm x)) w := by
      cases v <;> simp only [opNil, Option.some.injEq] at h <;> first | (cases h; done) | skip
      all_goals refine ⟨h.symm, ?_⟩
      all_goals simp only [RV] at hv
      all_goals first
        | (rw [execOp, ho]; simp only [hv]; rfl)
        | (obtain ⟨_, hv, _⟩ := hv; rw [execOp, ho]; simp only [hv]; rfl)
        | (obtain ⟨_, _, _, hv⟩ := hv; rw [execOp, ho]; simp only [hv]; rfl)
        | (obtain ⟨_, _, hv⟩ := hv; rw [execOp, ho]; simp only [hv]; rfl)
        | (obtain ⟨_, _, _, _, hv, _⟩ := hv; rw [execOp, ho]; simp only [hv]; rfl)
    rw [key.1]
    exact .pure r key.2 hv
theorem ok_unop (r : RH ρ H.get H.nx w) (t : RT ρ nt T tm) {op : UnOp} {ty : TypeId} {x : Operand} (ho : o.op = .unOp op ty x) (h : opUn op (ev T x) = some res) :
    OpOk ρ H w ((execOp (evm tm) o).run Pg w) res := by
  cases e : ev T x with
  | none => rw [e] at h; unfold opUn at h; split at h <;> simp_all
  | some v =>
    rw [e] at h
    have hv := ev_rel r.glob t e
    unfold opUn at h
    split at h
    · rename_i c e'
      injection e' with e'; subst e'
      injection h with h; subst h
      have hv : evm tm x = .bool c := hv
      exact .pure r (v := .bool !c) (by simp [execOp, ho, hv, Op.unary]) (by cases c <;> rfl)
    · rename_i k n e'
      injection e' with e'; subst e'
      injection h with h; subst h
      have hv : evm tm x = .int k n := hv
      exact .pure r (v := .int k (k.wrap (0 - n))) (by simp [execOp, ho, hv, Op.unary, Op.intArith]) (by rw [wrapI_eq]; rfl)
    · cases h
theorem ok_ifc (r : RH ρ H.get H.nx w) (t : RT ρ nt T tm) {ty : TypeId} {x : Operand} (ho : o.op = .makeInterface ty x) (h : opIfc ty (ev T x) = some res) :
    OpOk ρ H w ((execOp (evm tm) o).run Pg w) res := by
  unfold opIfc at h
  split at h
  · cases h
  · rename_i d v hd ed ev
    injection h with h; subst h
    have hv := ev_rel r.glob t ev
    refine .pure r (v := .iface ty (evm tm x)) ?_ ⟨_, rfl, hv⟩
    simp only [execOp, ho, Instr.makeInterface, Sem.run_bind]
    rw [show (underlying ty).run Pg w = .ok d w from by have ed : Pg.underlying ty = some d := ed; simp [underlying, ed]]
    simp only [Result.andThen_ok]
    cases d <;> first | (exact absurd rfl (hd _)) | rfl
  · cases h
theorem ok_makeFunc (r : RH ρ H.get H.nx w) (t : RT ρ nt T tm) {fn : Fn} {first captured : Array Operand} (ho : o.op = .makeFunc fn first captured) (h : opMakeFunc fn first captured T = some res) :
    OpOk ρ H w ((execOp (evm tm) o).run Pg w) res := by
  unfold opMakeFunc at h
  split at h
  · rename_i f
    cases e : evs T captured.toList with
    | none => rw [e] at h; cases h
    | some l =>
      rw [e] at h
      have h : some (R.v (.fn f l)) = some res := h
      injection h with h; subst h
      have hv := evs_rel r.glob t e
      exact .pure r (v := .func (.func f) #[] (captured.map (evm tm))) (by simp [execOp, ho, Instr.makeFunc]) ⟨_, rfl, by simpa using hv⟩
  · cases h
theorem part_ok {l : List V} {cs : Array Value} {off : Nat} {t : TypeId} {v : V} (hc : RC ρ l cs) (h : part l off (siz t) (isAgg t) = some v) :
    ∃ v', (Go.part t cs off).run Pg w = .ok v' w ∧ RV ρ v v' := by
  cases ea : isAgg t with
  | none => rw [ea] at h; cases h
  | some b =>
    rw [ea] at h
    have ha := isAgg_some (w := w) ea
    cases b with
    | false =>
      have h : nth l off = some v := h
      rw [nth_eq] at h
      obtain ⟨u, hu, hr⟩ := hc.2 _ _ h
      exact ⟨u, by simp [Go.part, ha, hu], hr⟩
    | true =>
      cases es : siz t with
      | none => rw [es] at h; cases h
      | some n =>
        rw [es] at h
        have h : agg? (sub l off n) = some v := h
        cases e : sub l off n with
        | none => rw [e] at h; cases h
        | some q =>
          rw [e] at h
          have h : some (V.agg q) = some v := h
          injection h with h; subst h
          obtain ⟨i, ei, rfl⟩ := siz_some es
          refine ⟨.agg (cs.extract off (off + i.size)), by simp [Go.part, ha, Go.sizeOf, typeInfo, ei], _, rfl, ?_⟩
          obtain ⟨rfl, hl⟩ := sub_eq e
          have hlen := hc.1
          refine .of_get ?_ ?_
          · simp; omega
          · intro j x u hx hu
            rw [List.getElem?_take] at hx
            split at hx
            · rw [List.getElem?_drop] at hx
              obtain ⟨u', hu', hr⟩ := hc.2 _ _ hx
              have : u' = u := by
                rw [Array.getElem?_toList, Array.getElem?_extract] at hu
                split at hu
                · rw [hu'] at hu; exact Option.some.inj hu
                · cases hu
              exact this ▸ hr
            · cases hx
theorem ok_field (r : RH ρ H.get H.nx w) (t : RT ρ nt T tm) {s : TypeId} {x : Operand} {f : Nat} (ho : o.op = .field s x f) (h : opField s f (ev T x) = some res) :
    OpOk ρ H w ((execOp (evm tm) o).run Pg w) res := by
  unfold opField at h
  split at h
  · rename_i fs l ed ev
    split at h
    · rename_i fd ef
      obtain ⟨v, e, rfl⟩ := val_some h
      obtain ⟨cs, hcs, hr⟩ := ev_rel r.glob t ev
      have hc : RC ρ l cs := ⟨by have := hr.len; simp at this; omega, fun i y e => by obtain ⟨u, hu, k⟩ := hr.get e; exact ⟨u, by simpa using hu, k⟩⟩
      obtain ⟨v', e', hr'⟩ := part_ok (w := w) hc e
      have ed : Pg.underlying s = some (.struct fs) := ed
      exact .pure r (by simp [execOp, ho, Instr.field, underlying, ed, ef, hcs, Go.asAgg, e']) hr'
    · cases h
  · cases h
theorem ok_extract (r : RH ρ H.get H.nx w) (t : RT ρ nt T tm) {x : Operand} {i : Nat} (ho : o.op = .extract x i) (h : opExtract i (ev T x) = some res) :
    OpOk ρ H w ((execOp (evm tm) o).run Pg w) res := by
  cases e : ev T x with
  | none => rw [e] at h; cases h
  | some v =>
    rw [e] at h
    have h : exTup i (asTup v) = some res := h
    cases et : asTup v with
    | none => rw [et] at h; cases h
    | some l =>
      rw [et] at h
      have h : val (nth l i) = some res := h
      obtain ⟨u, hu, rfl⟩ := val_some h
      rw [nth_eq] at hu
      have hv := ev_rel r.glob t e
      rw [asTup_some et] at hv
      obtain ⟨cs, hcs, hr⟩ := hv
      obtain ⟨u', hu', hr'⟩ := hr.get hu
      rw [Array.getElem?_toList] at hu'
      exact .pure r (by simp [execOp, ho, Instr.extract, hcs, hu']) hr'
theorem ok_assert (r : RH ρ H.get H.nx w) (t : RT ρ nt T tm) {x : Operand} {xt ty : TypeId} {ok : Bool} (ho : o.op = .typeAssert x xt ty ok) (h : opAssert ty ok (ev T x) = some res) :
    OpOk ρ H w ((execOp (evm tm) o).run Pg w) res := by
  unfold opAssert at h
  split at h
  · cases h
  · rename_i d t' v hd ed ev
    have ed : Pg.underlying ty = some d := ed
    obtain ⟨v', hv', hr⟩ := ev_rel r.glob t ev
    split at h
    · rename_i e1
      have e1 := of_beq e1
      subst e1
      injection h with h; subst h
      refine .pure r (v := .tuple #[v', .bool true]) ?_ ⟨_, rfl, .cons hr (.one rfl)⟩
      cases d <;> first | (exact absurd rfl (hd _)) | (simp [execOp, ho, Instr.typeAssert, underlying, ed, hv'])
    · rename_i e1
      have e1 := of_beq e1
      subst e1
      injection h with h; subst h
      refine .pure r (v := v') ?_ hr
      cases d <;> first | (exact absurd rfl (hd _)) | (simp [execOp, ho, Instr.typeAssert, underlying, ed, hv'])
    · cases h
  · cases h
theorem ok_panic (r : RH ρ H.get H.nx w) (t : RT ρ nt T tm) {x : Operand} (ho : o.op = .panic x) (h : opPanic (ev T x) = some res) :
    OpOk ρ H w ((execOp (evm tm) o).run Pg w) res := by
  unfold opPanic at h
  split at h
  · rename_i ty v e
    injection h with h; subst h
    have hv := ev_rel r.glob t e
    obtain ⟨v', hv', hr⟩ := hv
    exact ⟨_, by simp [execOp, ho, Instr.panic, hv'], _, rfl, hr⟩
  · cases h
theorem ok_fieldAddr (r : RH ρ H.get H.nx w) (t : RT ρ nt T tm) {s : TypeId} {x : Operand} {f : Nat} (ho : o.op = .fieldAddr s x f) (h : opFieldAddr s f (ev T x) = some res) :
    OpOk ρ H w ((execOp (evm tm) o).run Pg w) res := by
  cases e : ev T x with
  | none => rw [e] at h; cases h
  | some v =>
    rw [e] at h
    have h : fieldV (fieldNo s f) (asP v) = some res := h
    cases ep : asP v with
    | none => rw [ep] at h; cases h
    | some q =>
      obtain ⟨b, off⟩ := q
      rw [ep] at h
      have h : fieldP b off (fieldNo s f) = some res := h
      unfold fieldNo fieldOf at h
      have hv := ev_rel r.glob t e
      rw [asP_some ep] at hv
      obtain ⟨bb, n, hb, hx⟩ := hv
      cases ed : und s with
      | none => rw [ed] at h; cases h
      | some d =>
        rw [ed] at h
        have ed' : Pg.underlying s = some d := ed
        clear ed
        cases d <;> first | (cases h; done) | skip
        rename_i fs
        cases ef : fs[f]? with
        | none => simp only [ef] at h; cases h
        | some fd =>
          simp only [ef, fieldSz] at h
          cases es : siz fd.type with
          | none => simp only [es] at h; cases h
          | some m =>
            cases m with
            | zero => simp only [es] at h; cases h
            | succ m =>
              simp only [es] at h
              have h : some (R.v (.p b (off + fd.offset))) = some res := h
              injection h with h; subst h
              obtain ⟨i, ei, hi⟩ := siz_some es
              refine .pure r (v := .pointer (some ⟨bb, off + fd.offset, none⟩)) ?_ ⟨bb, n, hb, rfl⟩
              have hz : ¬ i.size = 0 := by omega
              simp [execOp, ho, Instr.fieldAt, underlying, ed', ef, hx, Instr.sureAddr, fieldPlace, Go.sizeOf, typeInfo, ei, hz, Addr.add]
theorem idx_some {x : Option V} {n : Nat} (h : idx x = some n) : ∃ k, x = some (.i k (.ofNat n)) := by
  cases x with
  | none => cases h
  | some v =>
    have h : idxI (asI v) = some n := h
    cases e : asI v with
    | none => rw [e] at h; cases h
    | some q =>
      obtain ⟨k, m⟩ := q
      rw [e] at h
      cases m with
      | ofNat m => injection h with h; subst h; exact ⟨k, by rw [asI_some e]⟩
      | negSucc m => cases h
theorem ok_indexAddr (r : RH ρ H.get H.nx w) (t : RT ρ nt T tm) {ty : TypeId} {x i : Operand} (ho : o.op = .indexAddr ty x i) (h : opIndexAddr ty (ev T x) (idx (ev T i)) = some res) :
    OpOk ρ H w ((execOp (evm tm) o).run Pg w) res := by
  cases ei : idx (ev T i) with
  | none => rw [ei] at h; cases h
  | some n =>
    rw [ei] at h
    obtain ⟨k, ek⟩ := idx_some ei
    have hi : evm tm i = .int k (.ofNat n) := ev_rel r.glob t ek
    unfold opIndexAddr at h
    simp only at h
    split at h
    · rename_i m e b off ed ev
      have ed : Pg.underlying ty = some (.array m e) := ed
      obtain ⟨bb, sz, hb, hx⟩ := ev_rel r.glob t ev
      unfold addrAt at h
      split at h
      · rename_i es hs
        split at h
        · rename_i hlt
          have hlt := of_blt hlt
          injection h with h; subst h
          obtain ⟨inf, e1, e2⟩ := siz_some hs
          refine .pure r (v := .pointer (some ⟨bb, off + n * es, none⟩)) ?_ ⟨bb, sz, hb, rfl⟩
          simp [execOp, ho, Instr.indexAt, hi, asIntOf, underlying, ed, hx, Instr.sureAddr, hlt, Go.sizeOf, typeInfo, e1, e2, Addr.add]
        · cases h
      · cases h
    · rename_i e b off len cap esz ed ev
      have ed : Pg.underlying ty = some (.slice e) := ed
      obtain ⟨bb, sz, c, hb, hx, _⟩ := ev_rel r.glob t ev
      unfold addrAt at h
      split at h
      · rename_i es hs
        split at h
        · rename_i hlt
          have hlt := of_blt hlt
          injection h with h; subst h
          obtain ⟨inf, e1, e2⟩ := siz_some hs
          refine .pure r (v := .pointer (some ⟨bb, off + n * es, none⟩)) ?_ ⟨bb, sz, hb, rfl⟩
          simp [execOp, ho, Instr.indexAt, hi, asIntOf, underlying, ed, hx, hlt, Go.sizeOf, typeInfo, e1, e2, Addr.add]
        · cases h
      · cases h
    · cases h
theorem byteAt_eq : ∀ (l : List Nat) (n : Nat), byteAt l n = (l[n]?).map fun c => V.i .u8 (.ofNat c)
  | [], _ => by simp [byteAt]
  | c :: _, 0 => by simp [byteAt]
  | _ :: r, n + 1 => by simp [byteAt, byteAt_eq r n]
theorem ok_index (r : RH ρ H.get H.nx w) (t : RT ρ nt T tm) {ty : TypeId} {x i : Operand} (ho : o.op = .index ty x i) (h : opIndex ty (ev T x) (idx (ev T i)) = some res) :
    OpOk ρ H w ((execOp (evm tm) o).run Pg w) res := by
  cases ei : idx (ev T i) with
  | none => rw [ei] at h; cases h
  | some n =>
    rw [ei] at h
    obtain ⟨k, ek⟩ := idx_some ei
    have hi : evm tm i = .int k (.ofNat n) := ev_rel r.glob t ek
    unfold opIndex at h
    simp only at h
    split at h
    · rename_i m e l ed ev
      have ed : Pg.underlying ty = some (.array m e) := ed
      obtain ⟨cs, hx, hr⟩ := ev_rel r.glob t ev
      split at h
      · rename_i es hlt hs
        have hlt := of_blt hlt
        obtain ⟨v, e', rfl⟩ := val_some h
        obtain ⟨inf, e1, e2⟩ := siz_some hs
        have hc : RC ρ l cs := ⟨by have := hr.len; simp at this; omega, fun i y e => by obtain ⟨u, hu, k⟩ := hr.get e; exact ⟨u, by simpa using hu, k⟩⟩
        rw [← hs] at e'
        obtain ⟨v', e3, hr'⟩ := part_ok (w := w) hc e'
        exact .pure r (by simp [execOp, ho, Instr.index, hi, asIntOf, underlying, ed, hx, hlt, Go.sizeOf, typeInfo, e1, e2, e3]) hr'
      · cases h
    · rename_i l ed ev
      have ed : Pg.underlying ty = some .string := ed
      obtain ⟨s, hx, hr⟩ := ev_rel r.glob t ev
      obtain ⟨v, e', rfl⟩ := val_some h
      rw [byteAt_eq, ← hr, byteL_eq] at e'
      simp at e'
      obtain ⟨c, hc, rfl⟩ := e'
      have hlt : n < s.size := by
        have := (List.getElem?_eq_some_iff.1 (by simpa using hc : s.data.toList[n]? = some c)).1
        simpa using this
      have hg : s[n]? = some c := by
        rw [ByteArray.getElem?_lt' s n hlt]
        have : s.data[n]? = some c := hc
        have h2 := (Array.getElem?_eq_some_iff.1 this).2
        exact congrArg some h2
      exact .pure r (v := .int .u8 c.toNat) (by simp [execOp, ho, Instr.index, hi, asIntOf, underlying, ed, hx, hg]) rfl
    · cases h
end
end
end Go.Proofs.YtmikbfdpenggjaaGreatDoor.Cv
