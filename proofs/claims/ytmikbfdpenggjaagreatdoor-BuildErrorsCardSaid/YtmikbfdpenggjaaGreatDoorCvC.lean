/- Operations on numbers and texts agree with the model. Conditions: those stated in each theorem. -/
import Derived.Test.YtmikbfdpenggjaaGreatDoorCvB
import Derived.Laws.StructEq
import Derived.ChangeKeysEq
namespace Go.Proofs.YtmikbfdpenggjaaGreatDoor.Cv
open Go
noncomputable section
section
variable {ρ : Rho} {H : Hp} {w : World} {nt : Nat} {T : Tr V} {tm : Array Value} {o : Oper} {res : R}

theorem notB_eq (b : Bool) : notB b = !b := by cases b <;> rfl
theorem both_true {a b : Bool} (h : both a b = true) : a = true ∧ b = true := by cases a <;> cases b <;> simp_all [both]
theorem c_eq (a c : Int) : (a == c) = eqI a c := by rw [eqI_eq]; rfl
theorem c_ne (a c : Int) : (a != c) = notB (eqI a c) := by rw [notB_eq, eqI_eq]; rfl
theorem c_lt (a c : Int) : decide (a < c) = ltI a c := by rw [ltI_eq]
theorem c_le (a c : Int) : decide (a ≤ c) = notB (ltI c a) := by rw [notB_eq, ltI_eq]; by_cases h : a ≤ c <;> simp [h] <;> omega
theorem c_gt (a c : Int) : decide (a > c) = ltI c a := by rw [ltI_eq]
theorem c_ge (a c : Int) : decide (a ≥ c) = notB (ltI a c) := by rw [notB_eq, ltI_eq]; by_cases h : c ≤ a <;> simp [h] <;> omega
/-- the guard of comparisons lets integers and strings by -/
theorem guard_int (op : BinOp) (t : TypeId) (x y : Operand) (k k' : IntKind) (a b : Int) : (eqGuard op t x y (.int k a) (.int k' b)).run Pg w = .ok () w := by
  unfold eqGuard
  split <;> rfl
theorem guard_str (op : BinOp) (t : TypeId) (x y : Operand) (a b : ByteArray) : (eqGuard op t x y (.string a) (.string b)).run Pg w = .ok () w := by
  unfold eqGuard
  split <;> rfl
theorem bin_ints {op : BinOp} {t ty : TypeId} {x y : Operand} (r : RH ρ H.get H.nx w) {k k' : IntKind} {a c : Int} (ho : o.op = .binOp op t x y ty) (hx : evm tm x = .int k a) (hy : evm tm y = .int k' c)
    (h : opInts op k a k' c = some res) : OpOk ρ H w ((execOp (evm tm) o).run Pg w) res := by
  have run : (execOp (evm tm) o).run Pg w = ((binOp op t (.int k a) (.int k' c)).run Pg w).andThen fun v w' => .ok (.value v) w' := by
    simp [execOp, ho, hx, hy, guard_int]
  unfold opInts at h
  split at h
  · rename_i hs
    cases c with
    | ofNat c =>
      have hn : ¬ ((Int.ofNat c) < 0) := by simp
      have hm : shN k c = min (Int.ofNat c).toNat k.bits := by
        unfold shN
        split
        · rename_i hb; have hb := of_ble hb; simp; omega
        · rename_i hb; have hb := of_ble_f hb; simp; omega
      unfold opShift at h
      cases op <;> simp only [isShift] at hs <;> first | (cases hs; done) | skip
      · simp only at h
        injection h with h; subst h
        refine .pure r (v := .int k (k.wrap (a * 2 ^ (min (Int.ofNat c).toNat k.bits)))) ?_ ?_
        · rw [run]; simp [binOp, Op.shift]; intro hc; omega
        · rw [wrapI_eq, hm]; simp [RV, powN, Int.natCast_pow]
      · simp only at h
        injection h with h; subst h
        refine .pure r (v := .int k (a.fdiv (2 ^ (min (Int.ofNat c).toNat k.bits)))) ?_ ?_
        · rw [run]; simp [binOp, Op.shift]; intro hc; omega
        · rw [hm]; simp [RV, powN, Int.natCast_pow]
    | negSucc c => cases h
  · rename_i hs
    split at h
    · rename_i hk
      have hk := eqK_eq hk
      subst hk
      unfold opInt at h
      cases op <;> simp only [isShift] at hs <;> simp only at h <;> first | (cases h; done) | skip
      all_goals first
        | (injection h with h; subst h; exact .pure r (by rw [run]; simp only [binOp, Op.intArith, Op.intBits, Op.intCmp, ne_eq, not_true_eq_false, if_false, Sem.run_pure, Result.andThen_ok]; rfl) (by simp only [RV, wrapI_eq, c_eq, c_ne, c_lt, c_le, c_gt, c_ge]))
        | (split at h
           · cases h
           · rename_i hz
             rw [eqI_eq] at hz
             have hz := of_decide_eq_false hz
             injection h with h; subst h
             exact .pure r (by rw [run]; simp only [binOp, Op.intDiv, ne_eq, not_true_eq_false, if_false, hz, Sem.run_pure, Result.andThen_ok]; rfl) (by simp only [RV, wrapI_eq]))
    · cases h
theorem bin_strs {op : BinOp} {t ty : TypeId} {x y : Operand} (r : RH ρ H.get H.nx w) {a c : List Nat} {s u : ByteArray} (ho : o.op = .binOp op t x y ty) (hx : evm tm x = .string s) (hy : evm tm y = .string u)
    (ha : byteL s.data.toList = a) (hc : byteL u.data.toList = c) (h : opStr op a c = some res) : OpOk ρ H w ((execOp (evm tm) o).run Pg w) res := by
  have run : (execOp (evm tm) o).run Pg w = ((binOp op t (.string s) (.string u)).run Pg w).andThen fun v w' => .ok (.value v) w' := by
    simp [execOp, ho, hx, hy, guard_str]
  have lt : ltS a c = Op.bytesLess s.toList u.toList := by rw [← ha, ← hc, ltS_bytes, ByteArray.toList_eq, ByteArray.toList_eq]
  have eq : eqS a c = (s.toList == u.toList) := by rw [← ha, ← hc]; exact eqS_bytes
  have la : a.length = s.size := by rw [← ha, byteL_eq]; simp
  have lc : c.length = u.size := by rw [← hc, byteL_eq]; simp
  unfold opStr at h
  cases op <;> simp only at h <;> first | (cases h; done) | skip
  · split at h
    · rename_i hb
      have hb := of_ble hb
      injection h with h; subst h
      refine .pure r (v := .string (s ++ u)) ?_ ⟨_, rfl, ?_⟩
      · rw [run]
        have hs : ¬ ((s.size + u.size : Nat) : Int) > IntKind.i64.max := by
          have : IntKind.i64.max = 9223372036854775807 := by simp [IntKind.max, IntKind.signed, IntKind.bits]
          omega
        simp only [binOp, Op.stringOp, hs, if_false, Sem.run_pure, Result.andThen_ok]
      · rw [← ha, ← hc]; simp [byteL_eq]
    · cases h
  · injection h with h; subst h
    exact .pure r (v := .bool (s.toList == u.toList)) (by rw [run]; simp only [binOp, Op.stringOp, Sem.run_pure, Result.andThen_ok]) (by rw [eq]; rfl)
  · injection h with h; subst h
    exact .pure r (v := .bool !(s.toList == u.toList)) (by rw [run]; simp only [binOp, Op.stringOp, Sem.run_pure, Result.andThen_ok]) (by rw [eq, notB_eq]; rfl)
  · injection h with h; subst h
    exact .pure r (v := .bool (Op.bytesLess s.toList u.toList)) (by rw [run]; simp only [binOp, Op.stringOp, Sem.run_pure, Result.andThen_ok]) (by rw [lt]; rfl)
  · injection h with h; subst h
    exact .pure r (v := .bool !(Op.bytesLess s.toList u.toList)) (by rw [run]; simp only [binOp, Op.stringOp, Sem.run_pure, Result.andThen_ok]) (by rw [lt, notB_eq]; rfl)

/-! equality -/
theorem eqS1_ok {t : TypeId} {x y : V} {vx vy : Value} {b : Bool} (h : eqS1 (und t) x y = some b) (hx : RV ρ x vx) (hy : RV ρ y vy) (d : Nat) : (Op.equalIn (d + 1) t vx vy).run Pg w = .ok b w := by
  unfold eqS1 at h
  split at h
  · rename_i k ed
    have ed : Pg.underlying t = some (.int k) := ed
    unfold eqIn at h
    split at h
    · split at h
      · rename_i hk
        have hk := eqK_eq hk
        subst hk
        injection h with h
        have hx : vx = _ := hx
        have hy : vy = _ := hy
        rw [hx, hy, run_equalIn_int w d t _ _ _ _ ed, c_eq, h]
      · cases h
    · cases h
  · rename_i ed
    have ed : Pg.underlying t = some .string := ed
    unfold eqSt at h
    split at h
    · injection h with h
      obtain ⟨s, rfl, hs⟩ := hx
      obtain ⟨u, rfl, hu⟩ := hy
      rw [run_equalIn_string w d t _ _ ed, ← eqS_bytes, hs, hu, h]
    · cases h
  · rename_i ed
    have ed : Pg.underlying t = some .bool := ed
    unfold eqBo at h
    split at h
    · injection h with h
      have hx : vx = _ := hx
      have hy : vy = _ := hy
      rw [hx, hy, run_equalIn_bool w d t _ _ ed, h]
    · cases h
  · cases h
theorem simple_part {t : TypeId} {cs : Array Value} {off : Nat} {v : Value} (h : simpleKey t = true) (hc : cs[off]? = some v) : (Go.part t cs off).run Pg w = .ok v w := by
  have : (Go.isAgg t).run Pg w = .ok false w := by
    unfold simpleKey at h
    split at h
    all_goals first | (cases h; done) | skip
    all_goals (rename_i ed; exact isAgg_some (by unfold isAgg; rw [ed]; rfl))
  simp [Go.part, this, hc]
theorem eqFs_ok (d : Nat) {xs ys : Array Value} : ∀ (fs : List Field) (i : Nat) (a c : List V) (b : Bool), flatF fs i = true → eqFs fs a c = some b →
    (∀ (j : Nat) (z : V), a[j]? = some z → ∃ v, xs[i + j]? = some v ∧ RV ρ z v) → (∀ (j : Nat) (z : V), c[j]? = some z → ∃ v, ys[i + j]? = some v ∧ RV ρ z v) →
    (Op.eqFields (d + 1) xs ys fs).run Pg w = .ok b w
  | [], i, a, c, b, _, h, _, _ => by
    cases a <;> cases c <;> simp [eqFs] at h
    subst h; simp [Op.eqFields]
  | f :: fs, i, a, c, b, hf, h, ha, hc => by
    unfold flatF at hf
    obtain ⟨h1, h2⟩ := both_true hf
    obtain ⟨h3, h4⟩ := both_true h1
    obtain ⟨h5, h6⟩ := both_true h2
    have h3 := of_beq h3
    have hname : f.name ≠ "_" := by
      rw [notB_eq] at h5
      simpa using h5
    cases a with
    | nil => simp [eqFs] at h
    | cons x a =>
      cases c with
      | nil => simp [eqFs] at h
      | cons y c =>
        obtain ⟨vx, ex, hx⟩ := ha 0 x rfl
        obtain ⟨vy, ey, hy⟩ := hc 0 y rfl
        simp only [eqFs] at h
        have p1 := simple_part (w := w) h4 (by rw [h3]; exact ex : xs[f.offset]? = some vx)
        have p2 := simple_part (w := w) h4 (by rw [h3]; exact ey : ys[f.offset]? = some vy)
        cases e : eqS1 (und f.type) x y with
        | none => rw [e] at h; cases h
        | some q =>
          have p3 := eqS1_ok (w := w) e hx hy d
          rw [e] at h
          cases q with
          | true =>
            have ih := eqFs_ok d fs (i + 1) a c b h6 h (fun j z hz => by have := ha (j + 1) z (by simpa using hz); rwa [show i + (j + 1) = i + 1 + j by omega] at this)
              (fun j z hz => by have := hc (j + 1) z (by simpa using hz); rwa [show i + (j + 1) = i + 1 + j by omega] at this)
            simp [Op.eqFields, hname, p1, p2, p3, ih]
          | false =>
            injection h with h; subst h
            simp [Op.eqFields, hname, p1, p2, p3]
theorem eqEs_ok (d : Nat) {e : TypeId} (hk : simpleKey e = true) {xs ys : Array Value} : ∀ (n i : Nat) (a c : List V) (b : Bool), eqEs (und e) n a c = some b →
    (∀ (j : Nat) (z : V), a[j]? = some z → ∃ v, xs[i + j]? = some v ∧ RV ρ z v) → (∀ (j : Nat) (z : V), c[j]? = some z → ∃ v, ys[i + j]? = some v ∧ RV ρ z v) →
    (Op.eqItems (d + 1) e 1 xs ys (List.range' i n)).run Pg w = .ok b w
  | 0, i, a, c, b, h, _, _ => by
    cases a <;> cases c <;> simp [eqEs] at h
    subst h; simp [Op.eqItems]
  | n + 1, i, a, c, b, h, ha, hc => by
    cases a with
    | nil => simp [eqEs] at h
    | cons x a =>
      cases c with
      | nil => simp [eqEs] at h
      | cons y c =>
        obtain ⟨vx, ex, hx⟩ := ha 0 x rfl
        obtain ⟨vy, ey, hy⟩ := hc 0 y rfl
        simp only [eqEs] at h
        have p1 := simple_part (w := w) hk (by simpa using ex : xs[i * 1]? = some vx)
        have p2 := simple_part (w := w) hk (by simpa using ey : ys[i * 1]? = some vy)
        rw [List.range'_succ]
        cases e' : eqS1 (und e) x y with
        | none => rw [e'] at h; cases h
        | some q =>
          have p3 := eqS1_ok (w := w) e' hx hy d
          rw [e'] at h
          cases q with
          | true =>
            have ih := eqEs_ok d hk n (i + 1) a c b h (fun j z hz => by have := ha (j + 1) z (by simpa using hz); rwa [show i + (j + 1) = i + 1 + j by omega] at this)
              (fun j z hz => by have := hc (j + 1) z (by simpa using hz); rwa [show i + (j + 1) = i + 1 + j by omega] at this)
            simp only [Op.eqItems, Sem.run_bind, p1, p2, p3, Result.andThen_ok]
            simpa using ih
          | false =>
            injection h with h; subst h
            simp only [Op.eqItems, Sem.run_bind, p1, p2, p3, Result.andThen_ok]
            simp
theorem rvs_at {l : List V} {cs : Array Value} (h : RVs ρ l cs.toList) (j : Nat) (z : V) (e : l[j]? = some z) : ∃ v, cs[0 + j]? = some v ∧ RV ρ z v := by
  obtain ⟨v, a, b⟩ := h.get e
  exact ⟨v, by simpa using a, b⟩
theorem fieldsOf_eq {t : TypeId} {fs : Array Field} (h : Pg.underlying t = some (.struct fs)) : Pg.fieldsOf t = fs := by simp [Program.fieldsOf, h]
theorem eqSr_ok {t : TypeId} {fs : Array Field} {x y : V} {vx vy : Value} {b : Bool} (ht : Pg.underlying t = some (.struct fs)) (h : eqSr t fs.toList x y = some b) (hx : RV ρ x vx) (hy : RV ρ y vy) (d : Nat) :
    (Op.equalIn (d + 2) t vx vy).run Pg w = .ok b w ∧ (∃ xs, vx = .agg xs) ∧ (∃ ys, vy = .agg ys) ∧ flatF fs.toList 0 = true := by
  unfold eqSr at h
  split at h
  · rename_i hf
    obtain ⟨h1, h2⟩ := both_true hf
    rw [notB_eq] at h2
    have h2 : Pg.stoodInHeld t = false := by simpa using h2
    unfold eqAg at h
    split at h
    · obtain ⟨xs, rfl, hx⟩ := hx
      obtain ⟨ys, rfl, hy⟩ := hy
      have hfo := fieldsOf_eq ht
      refine ⟨?_, ⟨_, rfl⟩, ⟨_, rfl⟩, h1⟩
      rw [run_equalIn_struct w (d + 1) t xs ys (by rw [hfo]; exact ht) h2, hfo]
      exact eqFs_ok d _ 0 _ _ b h1 h (rvs_at hx) (rvs_at hy)
    · cases h
  · cases h
theorem oneN_some {t : TypeId} (h : oneN (siz t) = true) : ∃ i, Pg.info? t = some i ∧ i.size = 1 := by
  unfold oneN at h
  split at h
  · rename_i e; exact siz_some e
  · cases h
theorem eqAr_ok {t e : TypeId} {n : Nat} {x y : V} {vx vy : Value} {b : Bool} (ht : Pg.underlying t = some (.array n e)) (h : eqAr n e x y = some b) (hx : RV ρ x vx) (hy : RV ρ y vy) (d : Nat) :
    (Op.equalIn (d + 2) t vx vy).run Pg w = .ok b w ∧ (∃ xs, vx = .agg xs) ∧ (∃ ys, vy = .agg ys) ∧ simpleKey e = true := by
  unfold eqAr at h
  split at h
  · split at h
    · rename_i hf
      obtain ⟨h1, h2⟩ := both_true hf
      obtain ⟨i, ei, hi⟩ := oneN_some h2
      obtain ⟨xs, rfl, hx⟩ := hx
      obtain ⟨ys, rfl, hy⟩ := hy
      refine ⟨?_, ⟨_, rfl⟩, ⟨_, rfl⟩, h1⟩
      rw [run_equalIn_array w (d + 1) xs ys ht ei, show Pg.cellsOf e = 1 by simp [Program.cellsOf, ei, hi], List.range_eq_range']
      exact eqEs_ok d h1 n 0 _ _ b h (rvs_at hx) (rvs_at hy)
    · cases h
  · cases h
theorem guardType_simple {t : TypeId} (h : simpleKey t = true) (d : Nat) : Pg.eqGuardType (d + 1) t = false := by
  unfold simpleKey at h
  split at h
  all_goals first | (cases h; done) | skip
  all_goals (rename_i ed; have ed : Pg.underlying t = some _ := ed; simp [Program.eqGuardType, ed])
theorem flatF_simple : ∀ (fs : List Field) (i : Nat), flatF fs i = true → ∀ f ∈ fs, simpleKey f.type = true
  | [], _, _, f, hf => by simp at hf
  | g :: fs, i, h, f, hf => by
    unfold flatF at h
    obtain ⟨h1, h2⟩ := both_true h
    obtain ⟨_, h4⟩ := both_true h1
    obtain ⟨_, h6⟩ := both_true h2
    rcases List.mem_cons.1 hf with rfl | hf
    · exact h4
    · exact flatF_simple fs _ h6 f hf
theorem depth2 : ∃ d, Pg.depth = d + 2 := ⟨2 * (Pg.types.size + Made.depth), rfl⟩
theorem guard_struct {t : TypeId} {fs : Array Field} (ht : Pg.underlying t = some (.struct fs)) (h : flatF fs.toList 0 = true) : Pg.eqGuardType Pg.depth t = false := by
  obtain ⟨d, hd⟩ := depth2
  rw [hd, show Pg.eqGuardType (d + 2) t = fs.any (fun f => f.name != "_" && Pg.eqGuardType (d + 1) f.type) from by rw [Program.eqGuardType, ht]]
  rw [Array.any_eq_false']
  intro f hf
  rw [guardType_simple (flatF_simple _ _ h f (by simpa using hf)) d]
  simp
theorem guard_array {t e : TypeId} {n : Nat} (ht : Pg.underlying t = some (.array n e)) (h : simpleKey e = true) : Pg.eqGuardType Pg.depth t = false := by
  obtain ⟨d, hd⟩ := depth2
  rw [hd, show Pg.eqGuardType (d + 2) t = Pg.eqGuardType (d + 1) e from by rw [Program.eqGuardType, ht]]
  exact guardType_simple h d
theorem emptyA_eq {α : Type} {a : Array α} (h : emptyA a = true) : a = #[] := by
  unfold emptyA at h
  split at h
  · rfl
  · cases h
theorem guard_other {op : BinOp} {t : TypeId} {x y : Operand} {a b : Value} (h1 : ¬ (a = .nilIface ∧ b = .nilIface)) (h2 : ∀ xs, a ≠ .agg xs) : (eqGuard op t x y a b).run Pg w = .ok () w := by
  unfold eqGuard
  split
  all_goals simp only [Bool.not_true, Bool.not_false, if_true, Bool.false_eq_true, if_false]
  all_goals first
    | rfl
    | (split
       · exact absurd ⟨rfl, rfl⟩ h1
       · exact absurd rfl (h2 _)
       · rfl)
theorem gnil (d : Nat) {t : TypeId} (ed : Pg.underlying t = some (.interface #[])) : (Op.eqGuardIn (d + 1) t .nilIface .nilIface).run Pg w = .ok false w := by
  simp [Op.eqGuardIn, underlying, ed]
theorem guard_nil {op : BinOp} {t : TypeId} {x y : Operand} (ed : Pg.underlying t = some (.interface #[])) : (eqGuard op t x y .nilIface .nilIface).run Pg w = .ok () w := by
  unfold eqGuard
  split
  all_goals simp only [Bool.not_true, Bool.not_false, if_true, Bool.false_eq_true, if_false]
  all_goals first
    | rfl
    | (rw [show Op.maxDepth = 9999 + 1 from rfl]; simp [gnil 9999 ed]; done)
theorem addr_beq (b x y : Nat) : ((⟨b, x, none⟩ : Addr) == ⟨b, y, none⟩) = decide (x = y) := by
  show decide ((⟨b, x, none⟩ : Addr) = ⟨b, y, none⟩) = decide (x = y)
  by_cases h : x = y <;> simp [h]
set_option maxHeartbeats 4000000 in
/-- equality of two values of a type: the guard lets it by, and the answer -/
theorem eqTy_ok {op : BinOp} {t : TypeId} {x y : V} {X Y : Operand} {vx vy : Value} {b : Bool} (h : eqTy t x y = some b) (hx : RV ρ x vx) (hy : RV ρ y vy) :
    (eqGuard op t X Y vx vy).run Pg w = .ok () w ∧ ∀ d, (Op.equalIn (d + 2) t vx vy).run Pg w = .ok b w := by
  unfold eqTy at h
  split at h
  · rename_i fs ed
    have ed : Pg.underlying t = some (.struct fs) := ed
    obtain ⟨e1, ⟨xs, rfl⟩, ⟨ys, rfl⟩, hf⟩ := eqSr_ok (w := w) ed h hx hy 0
    exact ⟨run_eqGuard_agg w op t X Y xs ys (guard_struct ed hf), fun d => (eqSr_ok (w := w) ed h hx hy d).1⟩
  · rename_i n e ed
    have ed : Pg.underlying t = some (.array n e) := ed
    obtain ⟨e1, ⟨xs, rfl⟩, ⟨ys, rfl⟩, hf⟩ := eqAr_ok (w := w) ed h hx hy 0
    exact ⟨run_eqGuard_agg w op t X Y xs ys (guard_array ed hf), fun d => (eqAr_ok (w := w) ed h hx hy d).1⟩
  · rename_i e ed
    have ed : Pg.underlying t = some (.pointer e) := ed
    split at h
    · rename_i hp
      unfold posN at hp
      split at hp
      · rename_i m es
        obtain ⟨i, ei, hi⟩ := siz_some es
        have hz : ¬ i.size = 0 := by omega
        unfold eqP at h
        split at h
        · injection h with h; subst h
          have hx : vx = _ := hx
          have hy : vy = _ := hy
          subst hx hy
          exact ⟨guard_other (by simp) (by simp), fun d => by simp [Op.equalIn, underlying, ed]⟩
        · injection h with h; subst h
          have hx : vx = _ := hx
          obtain ⟨_, _, _, hy⟩ := hy
          subst hx hy
          exact ⟨guard_other (by simp) (by simp), fun d => by simp [Op.equalIn, underlying, ed]⟩
        · injection h with h; subst h
          have hy : vy = _ := hy
          obtain ⟨_, _, _, hx⟩ := hx
          subst hx hy
          exact ⟨guard_other (by simp) (by simp), fun d => by simp [Op.equalIn, underlying, ed]⟩
        · split at h
          · rename_i hxy
            have hxy := of_beq hxy
            subst hxy
            injection h with h
            obtain ⟨b1, n1, e1, rfl⟩ := hx
            obtain ⟨b2, n2, e2, rfl⟩ := hy
            rw [e1] at e2
            injection e2 with e2
            injection e2 with e2 _
            subst e2
            refine ⟨guard_other (by simp) (by simp), fun d => ?_⟩
            rw [← h, beq_dec]
            simp [Op.equalIn, underlying, ed, Go.sizeOf, typeInfo, ei, hz, sameAddr]
            congr 1
            exact addr_beq _ _ _
          · cases h
        · cases h
      · cases hp
    · cases h
  · rename_i e ed
    have ed : Pg.underlying t = some (.slice e) := ed
    unfold eqSl at h
    split at h <;> first | (cases h; done) | skip
    all_goals (injection h with h; subst h)
    · have hx : vx = _ := hx
      have hy : vy = _ := hy
      subst hx hy
      exact ⟨guard_other (by simp) (by simp), fun d => by simp [Op.equalIn, underlying, ed]⟩
    · have hx : vx = _ := hx
      obtain ⟨_, _, _, _, hy, _⟩ := hy
      subst hx hy
      exact ⟨guard_other (by simp) (by simp), fun d => by simp [Op.equalIn, underlying, ed]⟩
    · have hy : vy = _ := hy
      obtain ⟨_, _, _, _, hx, _⟩ := hx
      subst hx hy
      exact ⟨guard_other (by simp) (by simp), fun d => by simp [Op.equalIn, underlying, ed]⟩
    · have hx : vx = _ := hx
      obtain ⟨_, _, hy⟩ := hy
      subst hx hy
      exact ⟨guard_other (by simp) (by simp), fun d => by simp [Op.equalIn, underlying, ed]⟩
    · have hy : vy = _ := hy
      obtain ⟨_, _, hx⟩ := hx
      subst hx hy
      exact ⟨guard_other (by simp) (by simp), fun d => by simp [Op.equalIn, underlying, ed]⟩
  · rename_i k e ed
    have ed : Pg.underlying t = some (.map k e) := ed
    unfold eqM at h
    split at h <;> first | (cases h; done) | skip
    all_goals (injection h with h; subst h)
    · have hx : vx = _ := hx
      have hy : vy = _ := hy
      subst hx hy
      exact ⟨guard_other (by simp) (by simp), fun d => by simp [Op.equalIn, underlying, ed]⟩
    · have hx : vx = _ := hx
      obtain ⟨_, _, _, hy⟩ := hy
      subst hx hy
      exact ⟨guard_other (by simp) (by simp), fun d => by simp [Op.equalIn, underlying, ed]⟩
    · have hy : vy = _ := hy
      obtain ⟨_, _, _, hx⟩ := hx
      subst hx hy
      exact ⟨guard_other (by simp) (by simp), fun d => by simp [Op.equalIn, underlying, ed]⟩
  · rename_i a1 a2 a3 ed
    have ed : Pg.underlying t = some (.func a1 a2 a3) := ed
    unfold eqFn at h
    split at h <;> first | (cases h; done) | skip
    all_goals (injection h with h; subst h)
    · have hx : vx = _ := hx
      have hy : vy = _ := hy
      subst hx hy
      exact ⟨guard_other (by simp) (by simp), fun d => by simp [Op.equalIn, underlying, ed]⟩
    · have hx : vx = _ := hx
      obtain ⟨_, hy, _⟩ := hy
      subst hx hy
      exact ⟨guard_other (by simp) (by simp), fun d => by simp [Op.equalIn, underlying, ed]⟩
    · have hy : vy = _ := hy
      obtain ⟨_, hx, _⟩ := hx
      subst hx hy
      exact ⟨guard_other (by simp) (by simp), fun d => by simp [Op.equalIn, underlying, ed]⟩
  · rename_i ms ed
    have ed : Pg.underlying t = some (.interface ms) := ed
    unfold eqIf at h
    split at h <;> first | (cases h; done) | skip
    · split at h
      · rename_i he
        have he := emptyA_eq he
        subst he
        injection h with h; subst h
        have hx : vx = _ := hx
        have hy : vy = _ := hy
        subst hx hy
        exact ⟨guard_nil ed, fun d => by simp [Op.equalIn, underlying, ed]⟩
      · cases h
    all_goals (injection h with h; subst h)
    · have hx : vx = _ := hx
      obtain ⟨_, hy, _⟩ := hy
      subst hx hy
      exact ⟨guard_other (by simp) (by simp), fun d => by simp [Op.equalIn, underlying, ed]⟩
    · have hy : vy = _ := hy
      obtain ⟨_, hx, _⟩ := hx
      subst hx hy
      exact ⟨guard_other (by simp) (by simp), fun d => by simp [Op.equalIn, underlying, ed]⟩
  · rename_i ed
    have ed : Pg.underlying t = some .bool := ed
    unfold eqBo at h
    split at h <;> first | (cases h; done) | skip
    injection h with h
    have hx : vx = _ := hx
    have hy : vy = _ := hy
    subst hx hy
    exact ⟨guard_other (by simp) (by simp), fun d => by rw [run_equalIn_bool w _ t _ _ ed, h]⟩
  · cases h
end
end
end Go.Proofs.YtmikbfdpenggjaaGreatDoor.Cv
