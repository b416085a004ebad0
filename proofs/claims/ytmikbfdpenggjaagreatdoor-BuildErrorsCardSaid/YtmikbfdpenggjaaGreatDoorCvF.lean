/- Control and calls of the evaluator agree with the model. Conditions: those stated in each theorem. -/
import Derived.Test.YtmikbfdpenggjaaGreatDoorCvE
namespace Go.Proofs.YtmikbfdpenggjaaGreatDoor.Cv
open Go
noncomputable section
def Fr.nt : Fr → Nat | .mk n _ _ _ => n
def Fr.D : Fr → List Df | .mk _ d _ _ => d
def Fr.R : Fr → Option V | .mk _ _ r _ => r
def Fr.rd : Fr → Option Nat | .mk _ _ _ r => r

/-- the fixed parts of a frame -/
structure FB where
  fn : FuncId
  kind : CallKind
  rd : Option Nat
def mkF (b : FB) (tm : Array Value) (df : List Deferred) (todo : List Item) (mode : FrameMode) : Frame :=
  { fn := b.fn, tmps := tm, todo, defers := df, mode, kind := b.kind, roundOf := b.rd }
def pEnt (v : Value) (r : Bool) : PanicEntry := { v, recovered := r }

def RDs (ρ : Rho) : List Df → List Deferred → Prop
  | [], l => l = []
  | d :: D, l => ∃ x l', l = x :: l' ∧ RDf ρ d x ∧ RDs ρ D l'
theorem RDf.mono {ρ ρ' : Rho} (h : Ext ρ ρ') {d : Df} {x : Deferred} (r : RDf ρ d x) : RDf ρ' d x := by
  cases d with
  | fn f l => obtain ⟨cs, vs, e, k⟩ := r; exact ⟨cs, vs, e, k.mono h⟩
  | coll y => obtain ⟨b, n, e, k⟩ := r; exact ⟨b, n, h _ _ e, k⟩
theorem RDs.mono {ρ ρ' : Rho} (h : Ext ρ ρ') : ∀ {D : List Df} {l : List Deferred}, RDs ρ D l → RDs ρ' D l
  | [], _, e => e
  | _ :: _, _, ⟨x, l', e, a, b⟩ => ⟨x, l', e, a.mono h, b.mono h⟩
/-- what may be recovered -/
def Rc (ρ : Rho) : Option V → CallKind → List Frame → Prop
  | none, kind, cs => ∀ fr : Frame, fr.kind = kind → tryRecover fr cs = none
  | some v, kind, cs => kind = .deferred ∧ ∃ c rest v', cs = c :: rest ∧ c.mode = .panicking [pEnt v' false] ∧ RV ρ v v'
theorem Rc.mono {ρ ρ' : Rho} (h : Ext ρ ρ') {R : Option V} {k : CallKind} {cs : List Frame} (r : Rc ρ R k cs) : Rc ρ' R k cs := by
  cases R with
  | none => exact r
  | some v => obtain ⟨a, c, rest, v', e1, e2, e3⟩ := r; exact ⟨a, c, rest, v', e1, e2, e3.mono h⟩
inductive RcTo : Option V → List Frame → Option V → List Frame → Prop
  | same (R : Option V) (cs : List Frame) : RcTo R cs R cs
  | got (v : V) (c : Frame) (rest : List Frame) (v' : Value) (h : c.mode = .panicking [pEnt v' false]) : RcTo (some v) (c :: rest) none ({ c with mode := .panicking [pEnt v' true] } :: rest)
theorem RcTo.trans {R₁ R₂ R₃ : Option V} {c₁ c₂ c₃ : List Frame} (a : RcTo R₁ c₁ R₂ c₂) (b : RcTo R₂ c₂ R₃ c₃) : RcTo R₁ c₁ R₃ c₃ := by
  cases a with
  | same => exact b
  | got v c rest v' h =>
    cases b with
    | same => exact .got v c rest v' h
def Rrd (ρ : Rho) : Option Nat → Option Nat → Prop
  | none, x => x = none
  | some l, x => ∃ b n, ρ l = some (b, n) ∧ x = some b
theorem Rrd.mono {ρ ρ' : Rho} (h : Ext ρ ρ') {a b : Option Nat} (r : Rrd ρ a b) : Rrd ρ' a b := by
  cases a with
  | none => exact r
  | some l => obtain ⟨c, n, e, k⟩ := r; exact ⟨c, n, h _ _ e, k⟩
structure St (ρ : Rho) (T : Tr V) (F : Fr) (H : Hp) (b : FB) (tm : Array Value) (df : List Deferred) (cs : List Frame) (w : World) : Prop where
  heap : RH ρ H.get H.nx w
  tmps : RT ρ F.nt T tm
  dfs : RDs ρ F.D df
  rc : Rc ρ F.R b.kind cs
  rd : Rrd ρ F.rd b.rd
  fok : ∃ fn, Pg.funcs[b.fn]? = some fn
/-- where a run of code comes to -/
def Lands (ρ : Rho) (m : Machine) (b : FB) (tm : Array Value) (df : List Deferred) (k : List Item) (cs : List Frame) (w : World) : X → Prop
  | .normal => Steps Pg m (lone (mkF b tm df k .run) cs w)
  | .exit id => ∃ k2, exitTo id k2 = exitTo id k ∧ Steps Pg m (lone (mkF b tm df (.code (.exit id) :: k2) .run) cs w)
  | .ret => ∃ k2, Steps Pg m (lone (mkF b tm df (.code .ret :: k2) .run) cs w)
  | .panic v => ∃ v' todo, RV ρ v v' ∧ Steps Pg m (lone (mkF b tm df todo (.panicking [pEnt v' false])) cs w)
theorem Lands.of {ρ : Rho} {m m' : Machine} {b : FB} {tm : Array Value} {df : List Deferred} {k : List Item} {cs : List Frame} {w : World} {x : X} (s : Steps Pg m m') (h : Lands ρ m' b tm df k cs w x) : Lands ρ m b tm df k cs w x := by
  cases x with
  | normal => exact Steps.trans s h
  | exit id => obtain ⟨k2, e, h⟩ := h; exact ⟨k2, e, Steps.trans s h⟩
  | ret => obtain ⟨k2, h⟩ := h; exact ⟨k2, Steps.trans s h⟩
  | panic v => obtain ⟨v', todo, e, h⟩ := h; exact ⟨v', todo, e, Steps.trans s h⟩
/-- what a run comes to, with the states -/
def Goes (ρ : Rho) (F : Fr) (H : Hp) (cs : List Frame) (w : World) (m : Machine) (b : FB) (k : List Item) (x : X) (T' : Tr V) (F' : Fr) (H' : Hp) : Prop :=
  ∃ ρ' tm' df' cs' w', St ρ' T' F' H' b tm' df' cs' w' ∧ To ρ H.get H.nx w ρ' H'.get H'.nx w' ∧ RcTo F.R cs F'.R cs' ∧ Lands ρ' m b tm' df' k cs' w' x
def SimC (ih : Ih) : Prop := ∀ c T F H x T' F' H', ih c T F H = .ok x T' F' H' → ∀ ρ b tm df k cs w, St ρ T F H b tm df cs w →
  Goes ρ F H cs w (lone (mkF b tm df (.code c :: k) .run) cs w) b k x T' F' H'
theorem Goes.of {ρ : Rho} {F : Fr} {H : Hp} {cs : List Frame} {w : World} {m m' : Machine} {b : FB} {k : List Item} {x : X} {T' : Tr V} {F' : Fr} {H' : Hp} (s : Steps Pg m m') (h : Goes ρ F H cs w m' b k x T' F' H') : Goes ρ F H cs w m b k x T' F' H' := by
  obtain ⟨ρ', tm', df', cs', w', a, c, d, e⟩ := h
  exact ⟨ρ', tm', df', cs', w', a, c, d, e.of s⟩
/-- a step to a state from which it goes on -/
theorem Goes.step {ρ ρ₁ : Rho} {F F₁ : Fr} {H H₁ : Hp} {cs cs₁ : List Frame} {w w₁ : World} {m m' : Machine} {b : FB} {k : List Item} {x : X} {T' : Tr V} {F' : Fr} {H' : Hp} (s : Steps Pg m m')
    (to : To ρ H.get H.nx w ρ₁ H₁.get H₁.nx w₁) (rc : RcTo F.R cs F₁.R cs₁) (h : Goes ρ₁ F₁ H₁ cs₁ w₁ m' b k x T' F' H') : Goes ρ F H cs w m b k x T' F' H' := by
  obtain ⟨ρ', tm', df', cs', w', a, c, d, e⟩ := h
  exact ⟨ρ', tm', df', cs', w', a, to.trans c, rc.trans d, e.of s⟩
/-- how a call ends for its caller -/
def CallRes (ρ : Rho) (m : Machine) (c : Frame) (cs : List Frame) (w : World) : E → Prop
  | .ret v => ∃ v', RV ρ v v' ∧ Steps Pg m (lone (c.finish v') cs w)
  | .pan v => ∃ v', RV ρ v v' ∧ Steps Pg m (lone (c.raise [pEnt v' false]) cs w)
def CallGoes (ρ : Rho) (H : Hp) (w : World) (m : Machine) (c : Frame) (cs : List Frame) (e : E) (H' : Hp) : Prop :=
  ∃ ρ' w', RH ρ' H'.get H'.nx w' ∧ To ρ H.get H.nx w ρ' H'.get H'.nx w' ∧ CallRes ρ' m c cs w' e
def SimN (call : Nat → List V → Hp → CRes) : Prop := ∀ f args H e R' H', call f args H = .ok e R' H' → (∃ fn c, Pg.funcs[f]? = some fn ∧ fn.body = some c) ∧ ∀ ρ vs c cs w, RH ρ H.get H.nx w → RVs ρ args vs →
  CallGoes ρ H w (lone (Frame.enter Pg f vs.toArray .normal) (c :: cs) w) c cs e H'

section steps
variable {b : FB} {tm : Array Value} {df : List Deferred} {k : List Item} {cs : List Frame} {w w' : World} {ops : Array Oper} {i : Nat} {rest : List Nat} {o : Oper}
theorem eval_mk (todo : List Item) (mode : FrameMode) : (mkF b tm df todo mode).eval = evm tm := by funext x; cases x <;> rfl
def putT (tm : Array Value) (d : Option Nat) (v : Value) : Array Value := match d with
  | some d => tm.setIfInBounds d v
  | none => tm
theorem RT.putT {ρ : Rho} {nt : Nat} {T T' : Tr V} {x : V} {v : Value} {d : Option Nat} (r : RT ρ nt T tm) (h : Cv.put nt T x d = some T') (hv : RV ρ x v) : RT ρ nt T' (Cv.putT tm d v) := by
  have := r.put h hv
  cases d <;> exact this
theorem finish_mk (ho : ops[i]? = some o) (v : Value) : (mkF b tm df (.inRegion ops (i :: rest) :: k) .run).finish v = mkF b (putT tm o.dst v) df (.inRegion ops rest :: k) .run := by
  cases hd : o.dst <;> simp [Frame.finish, mkF, putT, ho, hd]
theorem stepG_mk (ho : ops[i]? = some o) (hw : Region.wanted o (yielded ops tm) = true) (hdf : b.rd = none ∨ ∀ c, o.op ≠ .defer c) :
    stepG Pg true { frame := mkF b tm df (.inRegion ops (i :: rest) :: k) .run, callers := cs, status := .running, dying := none } w =
      stepG.apply Pg true (mkF b tm df (.inRegion ops (i :: rest) :: k) .run) cs none (execOp (evm tm) o) w := by
  have he := eval_mk (b := b) (tm := tm) (df := df) (.inRegion ops (i :: rest) :: k) .run
  rw [← he]
  simp only [stepG, mkF]
  unfold stepG.exec
  simp only [ho, Option.map_some, hw, Option.getD_some, if_true]
  unfold stepG.oper
  simp only [Frame.oper?, ho]
  rcases hdf with hdf | hdf
  · rw [hdf]
  · cases hop : o.op <;> first | (exact absurd hop (hdf _)) | (cases b.rd <;> rfl)
end steps
end
end Go.Proofs.YtmikbfdpenggjaaGreatDoor.Cv
namespace Go.Proofs.YtmikbfdpenggjaaGreatDoor.Cv
open Go
noncomputable section
section
variable {b : FB} {tm : Array Value} {df : List Deferred} {k : List Item} {cs : List Frame} {w w' : World} {ops : Array Oper} {i : Nat} {rest : List Nat} {o : Oper}
theorem step_of {fr fr' : Frame} {cs' : List Frame} (h : (stepG Pg true { frame := fr, callers := cs, status := .running, dying := none } w).bare = .go { frame := fr', callers := cs', status := .running, dying := none } w') :
    Steps Pg (lone fr cs w) (lone fr' cs' w') := .one (step_lone_go h)
theorem step_nv (ho : ops[i]? = some o) (hw : Region.wanted o (yielded ops tm) = true) (hdf : b.rd = none ∨ ∀ c, o.op ≠ .defer c) {nv : Next} {v : Value} (hnv : NV nv v) (hr : (execOp (evm tm) o).run Pg w = .ok nv w') :
    Steps Pg (lone (mkF b tm df (.inRegion ops (i :: rest) :: k) .run) cs w) (lone (mkF b (putT tm o.dst v) df (.inRegion ops rest :: k) .run) cs w') := by
  rw [← finish_mk ho]
  refine step_of ?_
  rw [stepG_mk ho hw hdf]
  rcases hnv with rfl | ⟨rfl, rfl⟩ <;> simp [stepG.apply, hr]
theorem step_enter (ho : ops[i]? = some o) (hw : Region.wanted o (yielded ops tm) = true) (hdf : b.rd = none ∨ ∀ c, o.op ≠ .defer c) {f : FuncId} {args : Array Value} (hr : (execOp (evm tm) o).run Pg w = .ok (.enter f args) w') :
    Steps Pg (lone (mkF b tm df (.inRegion ops (i :: rest) :: k) .run) cs w) (lone (Frame.enter Pg f args .normal) (mkF b tm df (.inRegion ops (i :: rest) :: k) .run :: cs) w') := by
  refine step_of ?_
  rw [stepG_mk ho hw hdf]
  simp [stepG.apply, hr, mkF]
theorem step_round (ho : ops[i]? = some o) (hw : Region.wanted o (yielded ops tm) = true) (hdf : b.rd = none ∨ ∀ c, o.op ≠ .defer c) {l : Nat} {f : FuncId} {tmps : Array Value} {asg bd : Code} (hr : (execOp (evm tm) o).run Pg w = .ok (.round l f tmps asg bd) w') :
    Steps Pg (lone (mkF b tm df (.inRegion ops (i :: rest) :: k) .run) cs w) (lone (Frame.round l f tmps asg bd .normal) (mkF b tm df (.inRegion ops (i :: rest) :: k) .run :: cs) w') := by
  refine step_of ?_
  rw [stepG_mk ho hw hdf]
  simp [stepG.apply, hr]
theorem step_defer (ho : ops[i]? = some o) (hw : Region.wanted o (yielded ops tm) = true) (hrd : b.rd = none) {d : Deferred} (hr : (execOp (evm tm) o).run Pg w = .ok (.defer d) w') :
    Steps Pg (lone (mkF b tm df (.inRegion ops (i :: rest) :: k) .run) cs w) (lone (mkF b (putT tm o.dst undef) (d :: df) (.inRegion ops rest :: k) .run) cs w') := by
  rw [← finish_mk (b := b) (df := d :: df) ho]
  refine step_of ?_
  rw [stepG_mk ho hw (.inl hrd)]
  simp [stepG.apply, hr, mkF]
theorem step_recover (ho : ops[i]? = some o) (hw : Region.wanted o (yielded ops tm) = true) (hrd : b.rd = none) {v : Value} {cs' : List Frame} (hr : (execOp (evm tm) o).run Pg w = .ok .recover w')
    (h : tryRecover (mkF b tm df (.inRegion ops (i :: rest) :: k) .run) cs = some (v, cs')) :
    Steps Pg (lone (mkF b tm df (.inRegion ops (i :: rest) :: k) .run) cs w) (lone (mkF b (putT tm o.dst v) df (.inRegion ops rest :: k) .run) cs' w') := by
  rw [← finish_mk ho]
  refine step_of ?_
  rw [stepG_mk ho hw (.inl hrd)]
  have hrd' : (mkF b tm df (.inRegion ops (i :: rest) :: k) .run).roundOf = none := hrd
  simp [stepG.apply, hr, hrd', h]
theorem step_recover_none (ho : ops[i]? = some o) (hw : Region.wanted o (yielded ops tm) = true) (hrd : b.rd = none) (hr : (execOp (evm tm) o).run Pg w = .ok .recover w')
    (h : tryRecover (mkF b tm df (.inRegion ops (i :: rest) :: k) .run) cs = none) :
    Steps Pg (lone (mkF b tm df (.inRegion ops (i :: rest) :: k) .run) cs w) (lone (mkF b (putT tm o.dst .nilIface) df (.inRegion ops rest :: k) .run) cs w') := by
  rw [← finish_mk ho]
  refine step_of ?_
  rw [stepG_mk ho hw (.inl hrd)]
  have hrd' : (mkF b tm df (.inRegion ops (i :: rest) :: k) .run).roundOf = none := hrd
  simp [stepG.apply, hr, hrd', h]
theorem step_panic (ho : ops[i]? = some o) (hw : Region.wanted o (yielded ops tm) = true) (hdf : b.rd = none ∨ ∀ c, o.op ≠ .defer c) {v : Value} (hr : (execOp (evm tm) o).run Pg w = .halt (.panic v) w') :
    Steps Pg (lone (mkF b tm df (.inRegion ops (i :: rest) :: k) .run) cs w) (lone (mkF b tm df (.inRegion ops (i :: rest) :: k) (.panicking [pEnt v false])) cs w') := by
  refine step_of ?_
  rw [stepG_mk ho hw hdf]
  simp [stepG.apply, hr, Frame.raise, mkF, pEnt]
theorem step_skipped (ho : ops[i]? = some o) (hw : Region.wanted o (yielded ops tm) = false) :
    Steps Pg (lone (mkF b tm df (.inRegion ops (i :: rest) :: k) .run) cs w) (lone (mkF b (putT tm o.dst undef) df (.inRegion ops rest :: k) .run) cs w) := by
  rw [← finish_mk ho]
  refine step_of ?_
  simp only [mkF]
  simp [stepG, stepG.exec, ho, hw]
theorem raise_mk (todo : List Item) (v : Value) : (mkF b tm df todo .run).raise [pEnt v false] = mkF b tm df todo (.panicking [pEnt v false]) := rfl
end

/-- is the operation wanted -/
theorem wanted_ok {ρ : Rho} {nt : Nat} {T : Tr V} {tm : Array Value} (t : RT ρ nt T tm) {ops : Array Oper} {o : Oper} {x : Bool} (h : wantedA ops T o.guard = some x) : Region.wanted o (yielded ops tm) = x := by
  unfold Region.wanted
  cases hg : o.guard with
  | none => rw [hg] at h; injection h
  | some g =>
    obtain ⟨j, want⟩ := g
    rw [hg] at h
    have h : wantT T want ops[j]? = some x := h
    simp only
    unfold yielded
    cases hj : ops[j]? with
    | none => rw [hj] at h; injection h with h
    | some p =>
      rw [hj] at h
      obtain ⟨dst, op, ty, pos, after, guard⟩ := p
      cases dst with
      | none => injection h with h
      | some d =>
        have h : isB want (T.get d) = some x := h
        have hr := t.2 d
        simp only [Option.bind_some]
        cases hT : T.get d with
        | none =>
          rw [hT] at h hr
          injection h with h; subst h
          obtain ⟨cs, hcs, hc⟩ := hr
          cases htm : tm[d]? with
          | none => rfl
          | some u =>
            have : tm.getD d undef = u := by simp [htm]
            rw [this] at hcs
            subst hcs
            rfl
        | some v =>
          rw [hT] at h hr
          have h : isBB want v (asB v) = some x := h
          have hr : RV ρ v (tm.getD d undef) := hr
          cases hB : asB v with
          | some y =>
            rw [hB] at h
            rw [asB_some hB] at hr
            have hr : tm.getD d undef = .bool y := hr
            have htm : tm[d]? = some (.bool y) := by
              cases htm : tm[d]? with
              | none => simp [htm] at hr; cases hr
              | some u => simp [htm] at hr; rw [hr]
            rw [htm]
            cases y with
            | true => injection h with h; subst h; cases want <;> rfl
            | false => injection h with h; subst h; cases want <;> rfl
          | none =>
            rw [hB] at h
            have h : unB (isUn v) = some x := h
            cases hu : isUn v with
            | true => rw [hu] at h; cases h
            | false =>
              rw [hu] at h
              injection h with h; subst h
              have hnb : ∀ y, tm.getD d undef ≠ .bool y := by
                intro y hy
                rw [hy] at hr
                cases v <;> simp only [RV] at hr <;> first | (cases hB; done) | (cases hu; done) | (cases hr; done) | (obtain ⟨_, hr, _⟩ := hr; cases hr; done) | (obtain ⟨_, _, _, hr⟩ := hr; cases hr; done) | (obtain ⟨_, _, hr⟩ := hr; cases hr; done) | (obtain ⟨_, _, _, _, hr, _⟩ := hr; cases hr; done)
              cases htm : tm[d]? with
              | none => rfl
              | some u =>
                have : tm.getD d undef = u := by simp [htm]
                rw [this] at hnb
                cases u <;> first | rfl | (exact absurd rfl (hnb _))
def SimY (ih : Ih) : Prop := ∀ l args H e R' H', yieldF ih l args H = .ok e R' H' → ∀ ρ vs lb n c cs w, RH ρ H.get H.nx w → ρ l = some (lb, n) → RVs ρ args vs →
  ∃ f tmps asg bd, (Instr.yield lb vs.toArray).run Pg w = .ok (.round lb f tmps asg bd) w ∧ CallGoes ρ H w (lone (Frame.round lb f tmps asg bd .normal) (c :: cs) w) c cs e H'
theorem called_inv {K : Tr V → Fr → Hp → Res} {T : Tr V} {d : Option Nat} {F : Fr} {q : CRes} {x : X} {T' : Tr V} {F' : Fr} {H' : Hp} (h : called K T d F q = .ok x T' F' H') : ∃ e R H, q = .ok e R H := by
  cases q with
  | no => cases h
  | ok e R H => exact ⟨e, R, H, rfl⟩
theorem putF_inv {K : Tr V → Fr → Hp → Res} {T : Tr V} {d : Option Nat} {v : V} {H : Hp} {F : Fr} {x : X} {T' : Tr V} {F' : Fr} {H' : Hp} (h : putF K T d v H F = .ok x T' F' H') : ∃ T1, put F.nt T v d = some T1 ∧ K T1 F H = .ok x T' F' H' := by
  obtain ⟨nt, D, R, rd⟩ := F
  have h : goOn K (.mk nt D R rd) H (put nt T v d) = .ok x T' F' H' := h
  cases e : put nt T v d with
  | none => rw [e] at h; cases h
  | some T1 => rw [e] at h; exact ⟨T1, e, h⟩
section
variable {M : Memo} {ih : Ih} {b : FB} {tm : Array Value} {df : List Deferred} {k : List Item} {cs : List Frame} {w : World} {ops : Array Oper} {i : Nat} {rest : List Nat} {o : Oper} {ρ : Rho} {T T' : Tr V} {F F' : Fr} {H H' : Hp} {x : X} {K : Tr V → Fr → Hp → Res}
/-- one operation -/
theorem sim_stepR (P : PgOk) (hN : SimN (callF M ih · · none)) (hY : SimY ih) (ho : ops[i]? = some o) (hw : Region.wanted o (yielded ops tm) = true) (s : St ρ T F H b tm df cs w)
    (hK : ∀ T1 F1 H1, K T1 F1 H1 = .ok x T' F' H' → ∀ ρ1 tm1 df1 cs1 w1, St ρ1 T1 F1 H1 b tm1 df1 cs1 w1 → Goes ρ1 F1 H1 cs1 w1 (lone (mkF b tm1 df1 (.inRegion ops rest :: k) .run) cs1 w1) b k x T' F' H')
    (h : stepR M ih o.dst K T F H (opF o.op T H) = .ok x T' F' H') : Goes ρ F H cs w (lone (mkF b tm df (.inRegion ops (i :: rest) :: k) .run) cs w) b k x T' F' H' := by
  cases hop : opF o.op T H with
  | none => rw [hop] at h; cases h
  | some r =>
    rw [hop] at h
    have hok := opF_ok P s.heap s.tmps hop
    have hndef : ∀ {r : R}, opF o.op T H = some r → (∀ d, r ≠ .dfr d) → ∀ c, o.op ≠ .defer c := by
      intro r hr hd c hc
      rw [hc] at hr
      have hr : opDefer c T = some r := hr
      unfold opDefer at hr
      split at hr
      · split at hr
        · split at hr
          · unfold dfTo at hr
            split at hr
            · injection hr with hr; exact hd _ hr.symm
            · cases hr
          · cases hr
        · cases hr
      · cases hr
    cases r with
    | v v =>
      obtain ⟨nv, v', w', h1, h2, h3, h4, h5⟩ := hok
      obtain ⟨T1, e1, h⟩ := putF_inv h
      refine .step (F₁ := F) (step_nv ho hw (.inr (hndef hop (by simp))) h2 h1) h5 (.same _ _) (hK T1 F H h ρ _ df cs w' ⟨h4, ?_, s.dfs, s.rc, s.rd, s.fok⟩)
      exact s.tmps.putT e1 h3
    | h v H1 =>
      obtain ⟨ρ', nv, v', w', h1, h2, h3, h4, h5⟩ := hok
      obtain ⟨T1, e1, h⟩ := putF_inv h
      refine .step (F₁ := F) (step_nv ho hw (.inr (hndef hop (by simp))) h2 h1) h5 (.same _ _) (hK T1 F H1 h ρ' _ df cs w' ⟨h4, ?_, s.dfs.mono h5.ext, s.rc.mono h5.ext, s.rd.mono h5.ext, s.fok⟩)
      exact (s.tmps.mono h5.ext).putT e1 h3
    | call f args =>
      obtain ⟨vs, h1, h2⟩ := hok
      have h : called K T o.dst F (callF M ih f args none H) = .ok x T' F' H' := h
      obtain ⟨e, R, H1, hq⟩ := called_inv h
      rw [hq] at h
      obtain ⟨⟨fn, cd, hb1, hb2⟩, hgo⟩ := hN f args H e R H1 hq
      have hrun := h2 fn cd hb1 hb2
      obtain ⟨ρ', w', h4, h5, h6⟩ := hgo ρ vs (mkF b tm df (.inRegion ops (i :: rest) :: k) .run) cs w s.heap h1
      have s1 := step_enter (b := b) (df := df) (k := k) (cs := cs) (rest := rest) ho hw (.inr (hndef hop (by simp))) hrun
      cases e with
      | ret v =>
        obtain ⟨v', h7, h8⟩ := h6
        rw [finish_mk ho] at h8
        obtain ⟨T1, e1, h⟩ := putF_inv h
        refine .step (F₁ := F) (s1.trans h8) h5 (.same _ _) (hK T1 F H1 h ρ' _ df cs w' ⟨h4, ?_, s.dfs.mono h5.ext, s.rc.mono h5.ext, s.rd.mono h5.ext, s.fok⟩)
        exact (s.tmps.mono h5.ext).putT e1 h7
      | pan v =>
        obtain ⟨v', h7, h8⟩ := h6
        rw [raise_mk] at h8
        injection h with e1 e2 e3 e4
        subst e1 e2 e3 e4
        exact ⟨ρ', tm, df, cs, w', ⟨h4, s.tmps.mono h5.ext, s.dfs.mono h5.ext, s.rc.mono h5.ext, s.rd.mono h5.ext, s.fok⟩, h5, .same _ _, v', _, h7, s1.trans h8⟩
    | yield l args =>
      obtain ⟨vs, lb, n, hb, h1, h2⟩ := hok
      have h : called K T o.dst F (yieldF ih l args H) = .ok x T' F' H' := h
      obtain ⟨e, R, H1, hq⟩ := called_inv h
      rw [hq] at h
      obtain ⟨f, tmps, asg, bd, h3, ρ', w', h4, h5, h6⟩ := hY l args H e R H1 hq ρ vs lb n (mkF b tm df (.inRegion ops (i :: rest) :: k) .run) cs w s.heap hb h1
      rw [h3] at h2
      have s1 := step_round (b := b) (df := df) (k := k) (cs := cs) (rest := rest) ho hw (.inr (hndef hop (by simp))) h2
      cases e with
      | ret v =>
        obtain ⟨v', h7, h8⟩ := h6
        rw [finish_mk ho] at h8
        obtain ⟨T1, e1, h⟩ := putF_inv h
        refine .step (F₁ := F) (s1.trans h8) h5 (.same _ _) (hK T1 F H1 h ρ' _ df cs w' ⟨h4, ?_, s.dfs.mono h5.ext, s.rc.mono h5.ext, s.rd.mono h5.ext, s.fok⟩)
        exact (s.tmps.mono h5.ext).putT e1 h7
      | pan v =>
        obtain ⟨v', h7, h8⟩ := h6
        rw [raise_mk] at h8
        injection h with e1 e2 e3 e4
        subst e1 e2 e3 e4
        exact ⟨ρ', tm, df, cs, w', ⟨h4, s.tmps.mono h5.ext, s.dfs.mono h5.ext, s.rc.mono h5.ext, s.rd.mono h5.ext, s.fok⟩, h5, .same _ _, v', _, h7, s1.trans h8⟩
    | dfr d =>
      obtain ⟨df1, h1, h2⟩ := hok
      obtain ⟨nt, D, R, rd⟩ := F
      cases rd with
      | some l => cases h
      | none =>
        have h : goOn K (.mk nt (d :: D) R none) H (put nt T undefV o.dst) = .ok x T' F' H' := h
        cases e : put nt T undefV o.dst with
        | none => rw [e] at h; cases h
        | some T1 =>
          rw [e] at h
          have hrd : b.rd = none := s.rd
          have s1 := step_defer (b := b) (df := df) (k := k) (cs := cs) (rest := rest) ho hw hrd h1
          exact .step (F₁ := .mk nt (d :: D) R none) s1 (.refl ..) (.same _ _) (hK T1 _ H h ρ _ (df1 :: df) cs w ⟨s.heap, s.tmps.putT e ⟨#[], rfl, rfl⟩, ⟨_, _, rfl, h2, s.dfs⟩, s.rc, s.rd, s.fok⟩)
    | recv =>
      have h1 : (execOp (evm tm) o).run Pg w = .ok .recover w := hok
      obtain ⟨nt, D, R, rd⟩ := F
      cases rd with
      | some l => cases R <;> cases h
      | none =>
        have hrd : b.rd = none := s.rd
        cases R with
        | none =>
          have h : goOn K (.mk nt D none none) H (put nt T .nifc o.dst) = .ok x T' F' H' := h
          cases e : put nt T .nifc o.dst with
          | none => rw [e] at h; cases h
          | some T1 =>
            rw [e] at h
            have s1 := step_recover_none (b := b) (df := df) (k := k) (cs := cs) (rest := rest) ho hw hrd h1 (s.rc _ rfl)
            exact .step (F₁ := .mk nt D none none) s1 (.refl ..) (.same _ _) (hK T1 _ H h ρ _ df cs w ⟨s.heap, s.tmps.putT e rfl, s.dfs, s.rc, s.rd, s.fok⟩)
        | some v =>
          have h : goOn K (.mk nt D none none) H (put nt T v o.dst) = .ok x T' F' H' := h
          cases e : put nt T v o.dst with
          | none => rw [e] at h; cases h
          | some T1 =>
            rw [e] at h
            obtain ⟨hk, c, rs, v', rfl, hm, hv⟩ := s.rc
            have htr : tryRecover (mkF b tm df (.inRegion ops (i :: rest) :: k) .run) (c :: rs) = some (v', { c with mode := .panicking [pEnt v' true] } :: rs) := by
              have hk' : (mkF b tm df (.inRegion ops (i :: rest) :: k) .run).kind = .deferred := hk
              unfold tryRecover
              rw [hk']
              simp only [hm, pEnt]
            have s1 := step_recover (b := b) (df := df) (k := k) (cs := c :: rs) (rest := rest) ho hw hrd h1 htr
            refine .step (F₁ := .mk nt D none none) s1 (.refl ..) (.got v c rs v' hm) (hK T1 _ H h ρ _ df _ w ⟨s.heap, s.tmps.putT e hv, s.dfs, ?_, s.rd, s.fok⟩)
            intro fr hfr
            unfold tryRecover
            rw [hfr, hk]
            simp [pEnt]
    | pan v =>
      obtain ⟨v', h1, h2⟩ := hok
      injection h with e1 e2 e3 e4
      subst e1 e2 e3 e4
      exact ⟨ρ, tm, df, cs, w, s, .refl .., .same _ _, v', _, h2, step_panic ho hw (.inr (hndef hop (by simp))) h1⟩
end
end
end Go.Proofs.YtmikbfdpenggjaaGreatDoor.Cv
namespace Go.Proofs.YtmikbfdpenggjaaGreatDoor.Cv
open Go
noncomputable section
section
variable {b : FB} {tm : Array Value} {df : List Deferred} {k : List Item} {cs : List Frame} {w w' : World}
theorem st_skip : Steps Pg (lone (mkF b tm df (.code .skip :: k) .run) cs w) (lone (mkF b tm df k .run) cs w) := step_of (by simp [stepG, stepG.exec, mkF])
theorem st_inBlock {id : Nat} : Steps Pg (lone (mkF b tm df (.inBlock id :: k) .run) cs w) (lone (mkF b tm df k .run) cs w) := step_of (by simp [stepG, stepG.exec, mkF])
theorem st_seq {x y : Code} : Steps Pg (lone (mkF b tm df (.code (.seq x y) :: k) .run) cs w) (lone (mkF b tm df (.code x :: .code y :: k) .run) cs w) := step_of (by simp [stepG, stepG.exec, mkF])
theorem st_cond {c : Operand} {x y : Code} {t : Bool} (h : evm tm c = .bool t) : Steps Pg (lone (mkF b tm df (.code (.cond c x y) :: k) .run) cs w) (lone (mkF b tm df (.code (if t then x else y) :: k) .run) cs w) :=
  step_of (by
    have e := eval_mk (b := b) (tm := tm) (df := df) (.code (.cond c x y) :: k) .run
    have h' : (mkF b tm df (.code (.cond c x y) :: k) .run).eval c = .bool t := by rw [e]; exact h
    simp only [mkF] at h' ⊢
    simp [stepG, stepG.exec, h'])
theorem st_block {id : Nat} {c : Code} : Steps Pg (lone (mkF b tm df (.code (.block id c) :: k) .run) cs w) (lone (mkF b tm df (.code c :: .inBlock id :: k) .run) cs w) := step_of (by simp [stepG, stepG.exec, mkF])
theorem st_loop1 {c : Code} : step Pg (lone (mkF b tm df (.code (.loop c) :: k) .run) cs w) = .next (lone (mkF b tm df (.code c :: .inLoop c :: k) .run) cs w) := step_lone_go (by simp [stepG, stepG.exec, mkF])
theorem st_inLoop {c : Code} : Steps Pg (lone (mkF b tm df (.inLoop c :: k) .run) cs w) (lone (mkF b tm df (.code c :: .inLoop c :: k) .run) cs w) := step_of (by simp [stepG, stepG.exec, mkF])
theorem st_exit {id : Nat} {k' : List Item} (h : exitTo id k = some k') : Steps Pg (lone (mkF b tm df (.code (.exit id) :: k) .run) cs w) (lone (mkF b tm df k' .run) cs w) := step_of (by simp [stepG, stepG.exec, mkF, h])
theorem st_region {id : Nat} {ops : Array Oper} : Steps Pg (lone (mkF b tm df (.code (.region id ops false) :: k) .run) cs w) (lone (mkF b tm df (.inRegion ops (List.range ops.size) :: k) .run) cs w) := step_of (by simp [stepG, stepG.exec, mkF])
theorem st_region_draw {id : Nat} {ops : Array Oper} : Steps Pg (lone (mkF b tm df (.code (.region id ops true) :: k) .run) cs w)
    (lone (mkF b tm df (.inRegion ops (Region.schedule (Pg.follows .mixedOrders) ops (w.tape w.drawn (.order b.fn id))) :: k) .run) cs { w with drawn := w.drawn + 1 }) :=
  step_of (by simp [stepG, stepG.exec, mkF, choose, Sem.run, Question.forced, Question.cut])
theorem st_region_end {ops : Array Oper} : Steps Pg (lone (mkF b tm df (.inRegion ops [] :: k) .run) cs w) (lone (mkF b tm df k .run) cs w) := step_of (by simp [stepG, stepG.exec, mkF])
end
theorem Steps.tail {m m1 m' : Machine} (h : Steps Pg m m') (s : step Pg m = .next m1) (ne : m ≠ m') : Steps Pg m1 m' := by
  obtain ⟨n, hn⟩ := h
  cases n with
  | zero => simp [runN] at hn; exact absurd hn ne
  | succ n => simp only [runN, s] at hn; exact ⟨n, hn⟩
section
variable {M : Memo} {ih : Ih} {b : FB} {tm : Array Value} {df : List Deferred} {k : List Item} {cs : List Frame} {w : World} {ops : Array Oper} {ρ : Rho} {T T' : Tr V} {F F' : Fr} {H H' : Hp} {x : X}
/-- a region in its own order -/
theorem sim_ops (P : PgOk) (hN : SimN (callF M ih · · none)) (hY : SimY ih) : ∀ (l : List Oper) (i : Nat), ops.toList.drop i = l → ∀ ρ T F H tm df cs w, opsA M ih ops l T F H = .ok x T' F' H' → St ρ T F H b tm df cs w →
    Goes ρ F H cs w (lone (mkF b tm df (.inRegion ops (List.range' i l.length) :: k) .run) cs w) b k x T' F' H'
  | [], i, _, ρ, T, F, H, tm, df, cs, w, h, s => by
    injection h with e1 e2 e3 e4
    subst e1 e2 e3 e4
    exact ⟨ρ, tm, df, cs, w, s, .refl .., .same _ _, st_region_end⟩
  | o :: l, i, hl, ρ, T, F, H, tm, df, cs, w, h, s => by
    have ho : ops[i]? = some o := by
      have : (ops.toList.drop i)[0]? = some o := by rw [hl]; rfl
      simpa using this
    have hl' : ops.toList.drop (i + 1) = l := by
      rw [← List.drop_drop, hl]; rfl
    have ihl := sim_ops P hN hY l (i + 1) hl'
    rw [List.length_cons, List.range'_succ]
    have h : step1 M ih o (opsA M ih ops l) T F H (wantedA ops T o.guard) = .ok x T' F' H' := h
    cases hw : wantedA ops T o.guard with
    | none => rw [hw] at h; cases h
    | some q =>
      rw [hw] at h
      have hwd := wanted_ok s.tmps hw
      cases q with
      | true => exact sim_stepR P hN hY ho hwd s (fun T1 F1 H1 h1 ρ1 tm1 df1 cs1 w1 s1 => ihl ρ1 T1 F1 H1 tm1 df1 cs1 w1 h1 s1) h
      | false =>
        obtain ⟨T1, e1, h⟩ := putF_inv h
        exact .step (F₁ := F) (step_skipped ho hwd) (.refl ..) (.same _ _) (ihl ρ T1 F H _ df cs w h ⟨s.heap, s.tmps.putT e1 ⟨#[], rfl, rfl⟩, s.dfs, s.rc, s.rd, s.fok⟩)
def SimDraw (M : Memo) (ih : Ih) : Prop := ∀ ops T F H x T' F' H', drawA M ih ops T F H = .ok x T' F' H' → ∀ ρ b tm df k cs w t, St ρ T F H b tm df cs w →
  Goes ρ F H cs w (lone (mkF b tm df (.inRegion ops (Region.linearise .any ops t) :: k) .run) cs w) b k x T' F' H'
def SimRange (M : Memo) (ih : Ih) : Prop := ∀ f params assign body T F H x T' F' H', rangeV M ih params assign body T F H (ev T f) = .ok x T' F' H' → ∀ ρ b tm df k cs w, St ρ T F H b tm df cs w →
  Goes ρ F H cs w (lone (mkF b tm df (.code (.rangeFunc f params assign body) :: k) .run) cs w) b k x T' F' H'
/-- landing in a place further in -/
theorem Lands.inner {m : Machine} {it : Item} (hit : ∀ id, exitTo id (it :: k) = exitTo id k) (hx : x ≠ .normal) (h : Lands ρ m b tm df (it :: k) cs w x) : Lands ρ m b tm df k cs w x := by
  cases x with
  | normal => exact absurd rfl hx
  | exit id => obtain ⟨k2, e, h⟩ := h; exact ⟨k2, by rw [e, hit], h⟩
  | ret => exact h
  | panic v => exact h
theorem Goes.inner {m : Machine} {it : Item} (hit : ∀ id, exitTo id (it :: k) = exitTo id k) (hx : x ≠ .normal) (h : Goes ρ F H cs w m b (it :: k) x T' F' H') : Goes ρ F H cs w m b k x T' F' H' := by
  obtain ⟨ρ', tm', df', cs', w', a, c, d, e⟩ := h
  exact ⟨ρ', tm', df', cs', w', a, c, d, e.inner hit hx⟩
theorem thenA_inv {b' : Code} {r : Res} (h : thenA ih b' r = .ok x T' F' H') : (∃ T F H, r = .ok .normal T F H ∧ ih b' T F H = .ok x T' F' H') ∨ (x ≠ .normal ∧ r = .ok x T' F' H') := by
  cases r with
  | no => cases h
  | ok y T F H =>
    cases y with
    | normal => exact .inl ⟨T, F, H, rfl, h⟩
    | exit id => right; refine ⟨?_, h⟩; have h : Res.ok _ T F H = _ := h; injection h with e; rw [← e]; simp
    | ret => right; refine ⟨?_, h⟩; have h : Res.ok _ T F H = _ := h; injection h with e; rw [← e]; simp
    | panic v => right; refine ⟨?_, h⟩; have h : Res.ok _ T F H = _ := h; injection h with e; rw [← e]; simp
theorem blockA_inv {id : Nat} {r : Res} (h : blockA id r = .ok x T' F' H') : (∃ j, r = .ok (.exit j) T' F' H' ∧ ((j = id ∧ x = .normal) ∨ (j ≠ id ∧ x = .exit j))) ∨ ((∀ j, x ≠ .exit j) ∧ r = .ok x T' F' H') := by
  cases r with
  | no => cases h
  | ok y T F H =>
    cases y with
    | normal => right; refine ⟨?_, h⟩; have h : Res.ok _ T F H = _ := h; injection h with e; rw [← e]; simp
    | exit j =>
      left
      have h : catchA id T F H j (Nat.beq j id) = _ := h
      cases hj : Nat.beq j id with
      | true => rw [hj] at h; injection h with e1 e2 e3 e4; subst e1 e2 e3 e4; exact ⟨j, rfl, .inl ⟨of_beq hj, rfl⟩⟩
      | false => rw [hj] at h; injection h with e1 e2 e3 e4; subst e1 e2 e3 e4; exact ⟨j, rfl, .inr ⟨of_beq_f hj, rfl⟩⟩
    | ret => right; refine ⟨?_, h⟩; have h : Res.ok _ T F H = _ := h; injection h with e; rw [← e]; simp
    | panic v => right; refine ⟨?_, h⟩; have h : Res.ok _ T F H = _ := h; injection h with e; rw [← e]; simp
/-- one more step of fuel -/
theorem sim_exec (P : PgOk) (hC : SimC ih) (hN : SimN (callF M ih · · none)) (hY : SimY ih) (hD : SimDraw M ih) (hR : SimRange M ih) : SimC fun c T F H => execF M c ih T F H := by
  intro c T F H x T' F' H' h ρ b tm df k cs w s
  cases c with
  | skip =>
    injection h with e1 e2 e3 e4
    subst e1 e2 e3 e4
    exact ⟨ρ, tm, df, cs, w, s, .refl .., .same _ _, st_skip⟩
  | region id ops d =>
    cases d with
    | false =>
      have h : opsA M ih ops ops.toList T F H = .ok x T' F' H' := h
      refine .of st_region ?_
      have := sim_ops (k := k) P hN hY ops.toList 0 rfl ρ T F H tm df cs w h s
      rw [List.range_eq_range']
      simpa using this
    | true =>
      have h : drawA M ih ops T F H = .ok x T' F' H' := h
      have hs := (s.heap.same (w' := { w with drawn := w.drawn + 1 }) rfl)
      refine .step (F₁ := F) st_region_draw hs.2 (.same _ _) ?_
      have hm := P.mixed
      simp only [Region.schedule, hm, Bool.true_or, if_true]
      exact hD ops T F H x T' F' H' h ρ b tm df k cs _ _ ⟨hs.1, s.tmps, s.dfs, s.rc, s.rd, s.fok⟩
  | seq a c =>
    have h : thenA ih c (ih a T F H) = .ok x T' F' H' := h
    refine .of st_seq ?_
    rcases thenA_inv h with ⟨T1, F1, H1, h1, h2⟩ | ⟨hx, h1⟩
    · obtain ⟨ρ1, tm1, df1, cs1, w1, s1, to1, rc1, l1⟩ := hC a T F H .normal T1 F1 H1 h1 ρ b tm df (.code c :: k) cs w s
      exact .step l1 to1 rc1 (hC c T1 F1 H1 x T' F' H' h2 ρ1 b tm1 df1 k cs1 w1 s1)
    · exact (hC a T F H x T' F' H' h1 ρ b tm df (.code c :: k) cs w s).inner (fun _ => rfl) hx
  | cond c a e =>
    have h : condA ih a e T F H (ev T c) = .ok x T' F' H' := h
    cases ec : ev T c with
    | none => rw [ec] at h; cases h
    | some v =>
      rw [ec] at h
      have h : condB ih a e T F H (asB v) = .ok x T' F' H' := h
      cases eb : asB v with
      | none => rw [eb] at h; cases h
      | some q =>
        rw [eb] at h
        have hv := ev_rel s.heap.glob s.tmps ec
        rw [asB_some eb] at hv
        have st := st_cond (b := b) (df := df) (k := k) (cs := cs) (w := w) (x := a) (y := e) hv
        cases q with
        | true => exact .of st (hC a T F H x T' F' H' h ρ b tm df k cs w s)
        | false => exact .of st (hC e T F H x T' F' H' h ρ b tm df k cs w s)
  | block id c =>
    have h : blockA id (ih c T F H) = .ok x T' F' H' := h
    refine .of st_block ?_
    rcases blockA_inv h with ⟨j, h1, h2⟩ | ⟨hx, h1⟩
    · obtain ⟨ρ1, tm1, df1, cs1, w1, s1, to1, rc1, k2, e2, l1⟩ := hC c T F H (.exit j) T' F' H' h1 ρ b tm df (.inBlock id :: k) cs w s
      rcases h2 with ⟨rfl, rfl⟩ | ⟨hj, rfl⟩
      · refine ⟨ρ1, tm1, df1, cs1, w1, s1, to1, rc1, l1.trans (st_exit ?_)⟩
        rw [e2]; simp [exitTo]
      · refine ⟨ρ1, tm1, df1, cs1, w1, s1, to1, rc1, k2, ?_, l1⟩
        rw [e2]
        have : (id == j) = false := by simpa using Ne.symm hj
        simp [exitTo, this]
    · obtain ⟨ρ1, tm1, df1, cs1, w1, s1, to1, rc1, l1⟩ := hC c T F H x T' F' H' h1 ρ b tm df (.inBlock id :: k) cs w s
      refine ⟨ρ1, tm1, df1, cs1, w1, s1, to1, rc1, ?_⟩
      cases x with
      | normal => exact Steps.trans l1 st_inBlock
      | exit j => exact absurd rfl (hx j)
      | ret => exact l1
      | panic v => exact l1
  | loop c =>
    have h : thenA ih (.loop c) (ih c T F H) = .ok x T' F' H' := h
    refine .of (.one st_loop1) ?_
    rcases thenA_inv h with ⟨T1, F1, H1, h1, h2⟩ | ⟨hx, h1⟩
    · obtain ⟨ρ1, tm1, df1, cs1, w1, s1, to1, rc1, l1⟩ := hC c T F H .normal T1 F1 H1 h1 ρ b tm df (.inLoop c :: k) cs w s
      have l1 : Steps Pg _ _ := l1
      refine .step (l1.trans st_inLoop) to1 rc1 ?_
      obtain ⟨ρ2, tm2, df2, cs2, w2, s2, to2, rc2, l2⟩ := hC (.loop c) T1 F1 H1 x T' F' H' h2 ρ1 b tm1 df1 k cs1 w1 s1
      refine ⟨ρ2, tm2, df2, cs2, w2, s2, to2, rc2, ?_⟩
      cases x with
      | normal =>
        refine Steps.tail l2 st_loop1 fun e => ?_
        have := congrArg (fun m : Machine => (m.gs[0]?).map (·.frame.todo.length)) e
        simp [lone, mkF] at this
      | exit j =>
        obtain ⟨k2, e2, l2⟩ := l2
        refine ⟨k2, e2, Steps.tail l2 st_loop1 fun e => ?_⟩
        have := congrArg (fun m : Machine => (m.gs[0]?).map (·.frame.todo)) e
        simp [lone, mkF] at this
      | ret =>
        obtain ⟨k2, l2⟩ := l2
        refine ⟨k2, Steps.tail l2 st_loop1 fun e => ?_⟩
        have := congrArg (fun m : Machine => (m.gs[0]?).map (·.frame.todo)) e
        simp [lone, mkF] at this
      | panic v =>
        obtain ⟨v', td, e2, l2⟩ := l2
        refine ⟨v', td, e2, Steps.tail l2 st_loop1 fun e => ?_⟩
        have := congrArg (fun m : Machine => (m.gs[0]?).map (·.frame.mode)) e
        simp [lone, mkF] at this
    · exact (hC c T F H x T' F' H' h1 ρ b tm df (.inLoop c :: k) cs w s).inner (fun _ => rfl) hx
  | rangeFunc f params assign body => exact hR f params assign body T F H x T' F' H' h ρ b tm df k cs w s
  | exit id =>
    injection h with e1 e2 e3 e4
    subst e1 e2 e3 e4
    exact ⟨ρ, tm, df, cs, w, s, .refl .., .same _ _, k, rfl, .refl _ _⟩
  | ret =>
    injection h with e1 e2 e3 e4
    subst e1 e2 e3 e4
    exact ⟨ρ, tm, df, cs, w, s, .refl .., .same _ _, k, .refl _ _⟩
  | scope _ => cases h
  | label _ => cases h
  | goto _ => cases h
  | refuse _ => cases h
end
end
end Go.Proofs.YtmikbfdpenggjaaGreatDoor.Cv
namespace Go.Proofs.YtmikbfdpenggjaaGreatDoor.Cv
open Go
noncomputable section
theorem argsT_get : ∀ (l : List V) (n : Nat) (T : Tr V) (t : Nat), (argsT l n T).get t = if n ≤ t ∧ t < n + l.length then l[t - n]? else T.get t
  | [], n, T, t => by rw [if_neg (by simp)]; rfl
  | a :: l, n, T, t => by
    show (argsT l (n + 1) (T.set a n)).get t = _
    rw [argsT_get l (n + 1) _ t]
    by_cases h : n + 1 ≤ t ∧ t < n + 1 + l.length
    · rw [if_pos h, if_pos (by simp; omega), show t - n = (t - (n + 1)) + 1 by omega]
      simp
    · rw [if_neg h, Tr.get_set]
      by_cases ht : t = n
      · subst ht; rw [if_pos rfl, if_pos (by simp)]; simp
      · rw [if_neg ht, if_neg (by simp; omega)]
theorem enter_rt {ρ : Rho} {args : List V} {vs : List Value} {nt : Nat} (h : RVs ρ args vs) (hl : args.length ≤ nt) : RT ρ nt (argsT args 0 .e) (vs.toArray ++ Array.replicate (nt - vs.toArray.size) undef) := by
  have hlen := h.len
  refine ⟨by simp; omega, fun t => ?_⟩
  rw [argsT_get]
  by_cases ht : t < args.length
  · rw [if_pos ⟨by omega, by omega⟩]
    have ha := List.getElem?_eq_getElem ht
    obtain ⟨v, hv, k⟩ := h.get ha
    rw [show t - 0 = t by omega, ha]
    have hlt : t < vs.length := by omega
    have : (vs.toArray ++ Array.replicate (nt - vs.toArray.size) undef).getD t undef = v := by
      rw [Array.getD_eq_getD_getElem?, Array.getElem?_append_left (by simpa using hlt)]
      simp [hv]
    rw [this]; exact k
  · rw [if_neg (by omega), Tr.get_e]
    have : (vs.toArray ++ Array.replicate (nt - vs.toArray.size) undef).getD t undef = undef := by
      rw [Array.getD_eq_getD_getElem?, Array.getElem?_append_right (by simp; omega)]
      rw [Array.getElem?_replicate]
      split <;> rfl
    rw [this]
    exact ⟨#[], rfl, rfl⟩
theorem enter_mk {f : FuncId} {fn : Func} {c : Code} {args : Array Value} {kind : CallKind} (h1 : Pg.funcs[f]? = some fn) (h2 : fn.body = some c) :
    Frame.enter Pg f args kind = mkF ⟨f, kind, none⟩ (args ++ Array.replicate (fn.ntmps - args.size) undef) [] [.code c] .run := by
  simp [Frame.enter, mkF, h1, h2]
/-! results -/
section
variable {ρ : Rho} {H : Hp} {w : World} {nt : Nat} {T : Tr V} {tm : Array Value}
def resOne (tm : Array Value) : ResultVar → Sem Value
  | .tmp t => pure (tm.getD t undef)
  | .cell a t => do loadVar t (← asAddr (tm.getD a undef))
theorem res_list (r : RH ρ H.get H.nx w) (t : RT ρ nt T tm) : ∀ (rs : List ResultVar) (l : List V), resultsA H T rs = some l → ∃ vs : List Value, (rs.mapM (resOne tm)).run Pg w = .ok vs w ∧ RVs ρ l vs
  | [], l, h => by injection h with h; subst h; exact ⟨[], by simp, rfl⟩
  | x :: rs, l, h => by
    have h : cons? (result H T x) (resultsA H T rs) = some l := h
    cases e1 : result H T x with
    | none => rw [e1] at h; simp [cons?] at h
    | some v =>
      cases e2 : resultsA H T rs with
      | none => rw [e1, e2] at h; simp [cons?] at h
      | some q =>
        rw [e1, e2] at h
        injection h with h; subst h
        obtain ⟨vs, h1, h2⟩ := res_list r t rs q e2
        have : ∃ v', (resOne tm x).run Pg w = .ok v' w ∧ RV ρ v v' := by
          cases x with
          | tmp t' => injection e1 with e1; subst e1; exact ⟨_, by simp [resOne], t.2 t'⟩
          | cell a ty =>
            have e1 : loadOf ty H (T.get a) = some v := e1
            unfold loadOf at e1
            split at e1
            · rename_i y off hT
              obtain ⟨q', l', g1, g2, g3⟩ := loadO_some e1
              obtain ⟨b, n, cs, e4, fz, e5, e6, e7⟩ := r.cells g1 g2
              have ht := t.2 a
              rw [hT] at ht
              obtain ⟨b', n', e8, hx⟩ := ht
              rw [e5] at e8
              injection e8 with e8; injection e8 with e8 _; subst e8
              obtain ⟨v', e9, hr⟩ := load_var e6 e7 g3
              exact ⟨v', by simp [resOne, hx, asAddr, e9], hr⟩
            · cases e1
        obtain ⟨v', h3, h4⟩ := this
        exact ⟨v' :: vs, by simp [List.mapM_cons, h3, h1], .cons h4 h2⟩
theorem res_ok (r : RH ρ H.get H.nx w) (t : RT ρ nt T tm) {fn : Func} {l : List V} (h : resultsA H T fn.results.toList = some l) : ∃ v', (results fn tm).run Pg w = .ok v' w ∧ (∀ R e, retOf R H (some l) = e → ∃ v, e = .ok (.ret v) R H ∧ RV ρ v v') := by
  obtain ⟨vs, h1, h2⟩ := res_list r t fn.results.toList l h
  have hm : (fn.results.mapM (resOne tm)).run Pg w = .ok vs.toArray w := by
    rw [Array.mapM_eq_mapM_toList]
    simp [h1]
  have hrun : (results fn tm).run Pg w = .ok (if h : vs.toArray.size = 1 then vs.toArray[0] else .tuple vs.toArray) w := by
    have e : results fn tm = (fn.results.mapM (resOne tm)) >>= fun vs => pure (if h : vs.size = 1 then vs[0] else .tuple vs) := by
      unfold results
      refine congrArg (fun q : Sem (Array Value) => q >>= fun vs => pure (if h : vs.size = 1 then vs[0] else Value.tuple vs)) ?_
      refine congrArg (fun g : ResultVar → Sem Value => fn.results.mapM g) ?_
      funext x; cases x <;> rfl
    rw [e]
    simp only [Sem.run_bind, hm, Result.andThen_ok, Sem.run_pure]
  refine ⟨_, hrun, fun R e he => ?_⟩
  cases l with
  | nil =>
    cases h2
    exact ⟨.tup [], he.symm, ⟨#[], rfl, rfl⟩⟩
  | cons a l =>
    obtain ⟨v, vs', rfl, k1, k2⟩ := h2
    cases l with
    | nil =>
      cases k2
      exact ⟨a, he.symm, by simpa using k1⟩
    | cons a2 l =>
      obtain ⟨v2, vs2, rfl, k3, k4⟩ := k2
      refine ⟨.tup (a :: a2 :: l), he.symm, ?_⟩
      rw [dif_neg (by simp)]
      exact ⟨_, rfl, .cons k1 (.cons k3 k4)⟩
end
/-! the end of an activation -/
def ModeOf (ρ : Rho) : Option V → FrameMode → Prop
  | none, m => m = .returning
  | some v, m => ∃ v', RV ρ v v' ∧ m = .panicking [pEnt v' false]
def EndsAt (ρ : Rho) (m : Machine) (f : FuncId) (kind : CallKind) (cs : List Frame) (w : World) : E → Prop
  | .ret v => ∃ v' tm todo fn, RV ρ v v' ∧ Pg.funcs[f]? = some fn ∧ (results fn tm).run Pg w = .ok v' w ∧ Steps Pg m (lone (mkF ⟨f, kind, none⟩ tm [] todo .returning) cs w)
  | .pan v => ∃ v' tm todo fn, RV ρ v v' ∧ Pg.funcs[f]? = some fn ∧ Steps Pg m (lone (mkF ⟨f, kind, none⟩ tm [] todo (.panicking [pEnt v' false])) cs w)
theorem EndsAt.of {ρ : Rho} {m m' : Machine} {f : FuncId} {kind : CallKind} {cs : List Frame} {w : World} {e : E} (s : Steps Pg m m') (h : EndsAt ρ m' f kind cs w e) : EndsAt ρ m f kind cs w e := by
  cases e with
  | ret v => obtain ⟨v', tm, todo, fn, a, b, c, d⟩ := h; exact ⟨v', tm, todo, fn, a, b, c, s.trans d⟩
  | pan v => obtain ⟨v', tm, todo, fn, a, b, d⟩ := h; exact ⟨v', tm, todo, fn, a, b, s.trans d⟩
def SimG (call : Nat → List V → Option V → Hp → CRes) : Prop := ∀ f args R H e R' H', call f args R H = .ok e R' H' → (∃ fn c, Pg.funcs[f]? = some fn ∧ fn.body = some c) ∧
  ∀ ρ vs kind cs w, RH ρ H.get H.nx w → RVs ρ args vs → Rc ρ R kind cs → ∃ ρ' cs' w', RH ρ' H'.get H'.nx w' ∧ To ρ H.get H.nx w ρ' H'.get H'.nx w' ∧ RcTo R cs R' cs' ∧ EndsAt ρ' (lone (Frame.enter Pg f vs.toArray kind) cs w) f kind cs' w' e
section
variable {ρ : Rho} {H : Hp} {w w' : World} {nt : Nat} {T : Tr V} {tm : Array Value} {b : FB} {df : List Deferred} {todo : List Item} {cs : List Frame} {mode : FrameMode}
theorem st_coll (hm : mode = .returning ∨ ∃ p, mode = .panicking p) {x : Nat} (hx : w.heap[x]? = some (.deferred (some []))) :
    Steps Pg (lone (mkF b tm ({ target := .collected x, args := #[] } :: df) todo mode) cs w) (lone (mkF b tm df todo mode) cs { w with heap := w.heap.setIfInBounds x (.deferred none) }) := by
  have hr : (Instr.takeDeferred x).run Pg w = .ok [] { w with heap := w.heap.setIfInBounds x (.deferred none) } := by
    simp [Instr.takeDeferred, run_getOther hx (by simp), run_setOther hx]
  refine step_of ?_
  rcases hm with rfl | ⟨p, rfl⟩ <;> simp [stepG, mkF, unwind, hr]
theorem st_deferred (P : PgOk) (hm : mode = .returning ∨ ∃ p, mode = .panicking p) {f : FuncId} {fn : Func} {c : Code} (h1 : Pg.funcs[f]? = some fn) (h2 : fn.body = some c) (vs caps : List Value) :
    Steps Pg (lone (mkF b tm ({ target := .fn (.func f) caps.toArray, args := vs.toArray } :: df) todo mode) cs w) (lone (Frame.enter Pg f (vs ++ caps).toArray .deferred) (mkF b tm df todo mode :: cs) w) := by
  have hn : ¬ fn.name = "runtime.NumGoroutine" := by simpa using P.name f fn h1
  have hr : (invoke (.fn (.func f) caps.toArray) vs.toArray).run Pg w = .ok (.enter f (vs ++ caps).toArray) w := by
    simp [invoke, callFunc, h1, h2, hn]
  refine step_of ?_
  rcases hm with rfl | ⟨p, rfl⟩ <;> simp [stepG, mkF, unwind, callDeferred, hr]
/-- a deferred call has returned -/
theorem st_back {f : FuncId} {fn : Func} {v : Value} {tm2 : Array Value} {todo2 : List Item} {c : Frame} (h1 : Pg.funcs[f]? = some fn) (h2 : (results fn tm2).run Pg w = .ok v w)
    (hm : c.mode = .returning ∨ ∃ u, c.mode = .panicking [pEnt u false]) :
    Steps Pg (lone (mkF ⟨f, .deferred, none⟩ tm2 [] todo2 .returning) (c :: cs) w) (lone c cs w) := by
  refine step_of ?_
  rcases hm with hm | ⟨u, hm⟩ <;> simp [stepG, mkF, unwind, h1, h2, doReturn, hm, pEnt]
theorem st_back_rec {f : FuncId} {fn : Func} {v u : Value} {tm2 : Array Value} {todo2 : List Item} {c : Frame} (h1 : Pg.funcs[f]? = some fn) (h2 : (results fn tm2).run Pg w = .ok v w)
    (hm : c.mode = .panicking [pEnt u true]) :
    Steps Pg (lone (mkF ⟨f, .deferred, none⟩ tm2 [] todo2 .returning) (c :: cs) w) (lone { c with mode := .returning } cs w) := by
  refine step_of ?_
  simp [stepG, mkF, unwind, h1, h2, doReturn, hm, pEnt]
theorem ModeOf.what {ρ : Rho} {pn : Option V} (h : ModeOf ρ pn mode) : mode = .returning ∨ ∃ p, mode = .panicking p := by
  cases pn with
  | none => exact .inl h
  | some v => obtain ⟨v', _, e⟩ := h; exact .inr ⟨_, e⟩
theorem ModeOf.mono {ρ ρ' : Rho} (hx : Ext ρ ρ') {pn : Option V} (h : ModeOf ρ pn mode) : ModeOf ρ' pn mode := by
  cases pn with
  | none => exact h
  | some v => obtain ⟨v', k, e⟩ := h; exact ⟨v', k.mono hx, e⟩
/-- deferred calls, then the results -/
theorem sim_leave (P : PgOk) {call : Nat → List V → Option V → Hp → CRes} (hG : SimG call) {f : FuncId} {kind : CallKind} {fn : Func} (hfn : Pg.funcs[f]? = some fn) {e : E} {R R' : Option V} {H' : Hp} :
    ∀ (D : List Df) (pn : Option V) (H : Hp) (ρ : Rho) (df : List Deferred) (mode : FrameMode) (w : World), leaveA call fn.results.toList T R D pn H = .ok e R' H' → RH ρ H.get H.nx w → RT ρ nt T tm → RDs ρ D df → ModeOf ρ pn mode →
    R' = R ∧ ∃ ρ' w', RH ρ' H'.get H'.nx w' ∧ To ρ H.get H.nx w ρ' H'.get H'.nx w' ∧ EndsAt ρ' (lone (mkF ⟨f, kind, none⟩ tm df todo mode) cs w) f kind cs w' e
  | [], pn, H, ρ, df, mode, w, h, r, t, d, m => by
    have d : df = [] := d
    subst d
    cases pn with
    | some v =>
      injection h with e1 e2 e3
      subst e1 e2 e3
      obtain ⟨v', k, rfl⟩ := m
      exact ⟨rfl, ρ, w, r, .refl .., v', tm, todo, fn, k, hfn, .refl _ _⟩
    | none =>
      have m : mode = .returning := m
      subst m
      have h : retOf R H (resultsA H T fn.results.toList) = .ok e R' H' := h
      cases er : resultsA H T fn.results.toList with
      | none => rw [er] at h; cases h
      | some l =>
        rw [er] at h
        obtain ⟨v', h1, h2⟩ := res_ok r t er
        obtain ⟨v, h3, h4⟩ := h2 R _ h
        injection h3 with e1 e2 e3
        subst e1 e2 e3
        exact ⟨rfl, ρ, w, r, .refl .., v', tm, todo, fn, h4, hfn, h1, .refl _ _⟩
  | .coll x :: D, pn, H, ρ, df, mode, w, h, r, t, d, m => by
    obtain ⟨d0, df', rfl, ⟨bx, n, hb, rfl⟩, d⟩ := d
    unfold leaveA at h
    split at h
    · rename_i eg
      obtain ⟨b', n', e1, e2⟩ := r.obj x _ eg rfl
      rw [hb] at e1
      injection e1 with e1; injection e1 with e1 e1'; subst e1 e1'
      have e2 : w.heap[bx]? = some (.deferred (some [])) := e2
      have up := upd_set (.deferred none) e2
      have h1 := r.upd (o' := .dead) eg rfl hb up (.inr rfl) trivial
      have hs := st_coll (b := ⟨f, kind, none⟩) (tm := tm) (df := df') (todo := todo) (cs := cs) m.what e2
      rw [← get_set_fun, ← Hp.nx_set H x .dead] at h1
      obtain ⟨hR, ρ', w', k1, k2, k3⟩ := sim_leave P hG hfn D pn (H.set x .dead) ρ df' mode _ h (by rw [Hp.nx_set] at h1 ⊢; exact h1.1) t d m
      refine ⟨hR, ρ', w', k1, ?_, k3.of hs⟩
      have h1' := h1.2
      rw [Hp.nx_set] at k2
      rw [Hp.nx_set] at h1'
      exact h1'.trans k2
    · cases h
  | .fn g args :: D, pn, H, ρ, df, mode, w, h, r, t, d, m => by
    obtain ⟨d0, df', rfl, ⟨caps, vs, rfl, ha⟩, d⟩ := d
    unfold leaveA at h
    split at h
    · rename_i v pn' H1 hc
      obtain ⟨⟨gn, gc, hg1, hg2⟩, hgo⟩ := hG g args pn H _ pn' H1 hc
      have hs := st_deferred (b := ⟨f, kind, none⟩) (tm := tm) (df := df') (todo := todo) (cs := cs) (w := w) P m.what hg1 hg2 vs caps
      have hrc : Rc ρ pn .deferred (mkF ⟨f, kind, none⟩ tm df' todo mode :: cs) := by
        cases pn with
        | none =>
          intro fr hfr
          have m : mode = .returning := m
          subst m
          unfold tryRecover
          rw [hfr]
          rfl
        | some u =>
          obtain ⟨u', k, rfl⟩ := m
          exact ⟨rfl, _, _, u', rfl, rfl, k⟩
      obtain ⟨ρ1, cs1, w1, k1, k2, k3, v', tm2, td2, gn', k4, k5, k6, k7⟩ := hgo ρ (vs ++ caps) .deferred (mkF ⟨f, kind, none⟩ tm df' todo mode :: cs) w r ha hrc
      cases k3 with
      | same =>
        have hb := st_back (cs := cs) (c := mkF ⟨f, kind, none⟩ tm df' todo mode) (todo2 := td2) k5 k6 (by
          cases pn with
          | none => exact .inl m
          | some u => obtain ⟨u', _, e⟩ := m; exact .inr ⟨u', e⟩)
        obtain ⟨hR, ρ', w', j1, j2, j3⟩ := sim_leave P hG hfn D pn H1 ρ1 df' mode w1 h k1 (t.mono k2.ext) (d.mono k2.ext) (m.mono k2.ext)
        exact ⟨hR, ρ', w', j1, k2.trans j2, j3.of (hs.trans (k7.trans hb))⟩
      | got u c rest u' hm =>
        have hb := st_back_rec (cs := cs) (c := { mkF ⟨f, kind, none⟩ tm df' todo mode with mode := .panicking [pEnt u' true] }) (todo2 := td2) (u := u') k5 k6 rfl
        obtain ⟨hR, ρ', w', j1, j2, j3⟩ := sim_leave P hG hfn D none H1 ρ1 df' .returning w1 h k1 (t.mono k2.ext) (d.mono k2.ext) rfl
        exact ⟨hR, ρ', w', j1, k2.trans j2, j3.of (hs.trans (k7.trans hb))⟩
    · cases h
theorem st_end : Steps Pg (lone (mkF ⟨b.fn, b.kind, none⟩ tm df [] .run) cs w) (lone (mkF ⟨b.fn, b.kind, none⟩ tm df [] .returning) cs w) := step_of (by simp [stepG, stepG.exec, mkF])
theorem st_ret {k : List Item} : Steps Pg (lone (mkF ⟨b.fn, b.kind, none⟩ tm df (.code .ret :: k) .run) cs w) (lone (mkF ⟨b.fn, b.kind, none⟩ tm df (.code .ret :: k) .returning) cs w) := step_of (by simp [stepG, stepG.exec, mkF])
/-- a whole activation -/
theorem sim_enter (P : PgOk) {ih : Ih} {call : Nat → List V → Option V → Hp → CRes} (hC : SimC ih) (hG : SimG call) : SimG fun f args R H => enter ih call args R H Pg.funcs[f]? := by
  intro f args R H e R' H' h
  cases hf : Pg.funcs[f]? with
  | none => simp only [hf] at h; cases h
  | some fn =>
    simp only [hf] at h
    unfold enter at h
    cases hb : fn.body with
    | none => simp only [hb] at h; cases h
    | some c =>
      simp only [hb] at h
      refine ⟨⟨fn, c, rfl, hb⟩, fun ρ vs kind cs w r ha hrc => ?_⟩
      cases hl : Nat.ble args.length fn.ntmps with
      | false => simp only [hl] at h; cases h
      | true =>
        simp only [hl] at h
        have hl := of_ble hl
        rw [enter_mk hf hb]
        have s : St ρ (argsT args 0 .e) (.mk fn.ntmps [] R none) H ⟨f, kind, none⟩ (vs.toArray ++ Array.replicate (fn.ntmps - vs.toArray.size) undef) [] cs w := ⟨r, enter_rt ha hl, rfl, hrc, rfl, fn, hf⟩
        cases hx : ih c (argsT args 0 .e) (.mk fn.ntmps [] R none) H with
        | no => rw [hx] at h; cases h
        | ok x T1 F1 H1 =>
          rw [hx] at h
          obtain ⟨ρ1, tm1, df1, cs1, w1, s1, to1, rc1, l1⟩ := hC c _ _ H x T1 F1 H1 hx ρ ⟨f, kind, none⟩ _ [] [] cs w s
          obtain ⟨nt1, D1, R1, rd1⟩ := F1
          cases x with
          | normal =>
            have h : leaveA call fn.results.toList T1 R1 D1 none H1 = .ok e R' H' := h
            obtain ⟨rfl, ρ2, w2, j1, j2, j3⟩ := sim_leave (nt := nt1) (tm := tm1) (todo := []) (cs := cs1) (kind := kind) P hG hf D1 none H1 ρ1 df1 .returning w1 h s1.heap s1.tmps s1.dfs rfl
            have l1 : Steps Pg _ _ := l1
            exact ⟨ρ2, cs1, w2, j1, to1.trans j2, rc1, j3.of (l1.trans (st_end (b := ⟨f, kind, none⟩)))⟩
          | exit id => cases h
          | ret =>
            have h : leaveA call fn.results.toList T1 R1 D1 none H1 = .ok e R' H' := h
            obtain ⟨k2, l1⟩ := l1
            obtain ⟨rfl, ρ2, w2, j1, j2, j3⟩ := sim_leave (nt := nt1) (tm := tm1) (todo := .code .ret :: k2) (cs := cs1) (kind := kind) P hG hf D1 none H1 ρ1 df1 .returning w1 h s1.heap s1.tmps s1.dfs rfl
            exact ⟨ρ2, cs1, w2, j1, to1.trans j2, rc1, j3.of (l1.trans (st_ret (b := ⟨f, kind, none⟩)))⟩
          | panic v =>
            have h : leaveA call fn.results.toList T1 R1 D1 (some v) H1 = .ok e R' H' := h
            obtain ⟨v', td, hv, l1⟩ := l1
            obtain ⟨rfl, ρ2, w2, j1, j2, j3⟩ := sim_leave (nt := nt1) (tm := tm1) (todo := td) (cs := cs1) (kind := kind) P hG hf D1 (some v) H1 ρ1 df1 _ w1 h s1.heap s1.tmps s1.dfs ⟨v', hv, rfl⟩
            exact ⟨ρ2, cs1, w2, j1, to1.trans j2, rc1, j3.of l1⟩
theorem simG_no : SimG fun _ _ _ _ => .no := by intro f args R H e R' H' h; cases h
/-- from the end of an activation to its caller -/
theorem ends_normal {ρ : Rho} {m : Machine} {f : FuncId} {c : Frame} {e : E} (h : EndsAt ρ m f .normal (c :: cs) w e) : CallRes ρ m c cs w e := by
  cases e with
  | ret v =>
    obtain ⟨v', tm, todo, fn, a, hf, hr, s⟩ := h
    refine ⟨v', a, s.trans (step_of ?_)⟩
    simp [stepG, mkF, unwind, hf, hr, doReturn]
  | pan v =>
    obtain ⟨v', tm, todo, fn, a, hf, s⟩ := h
    refine ⟨v', a, s.trans (step_of ?_)⟩
    simp [stepG, mkF, unwind, hf, Frame.catches]
/-- calls that are known beforehand -/
def MemoOk (M : Memo) : Prop := ∀ f args H e R' H', M f args H = .ok e R' H' → (∃ fn c, Pg.funcs[f]? = some fn ∧ fn.body = some c) ∧ ∀ ρ vs c cs w, RH ρ H.get H.nx w → RVs ρ args vs →
  CallGoes ρ H w (lone (Frame.enter Pg f vs.toArray .normal) (c :: cs) w) c cs e H'
theorem sim_call (P : PgOk) {M : Memo} (hM : MemoOk M) {ih : Ih} (hC : SimC ih) : SimN (callF M ih · · none) := by
  intro f args H e R' H' h
  have h : callF M ih f args none H = .ok e R' H' := h
  unfold callF at h
  cases hm : M f args H with
  | ok e1 R1 H1 =>
    rw [hm] at h
    injection h with e2 e3 e4
    subst e2 e3 e4
    exact hM f args H _ _ _ hm
  | no =>
    rw [hm] at h
    have h0 : SimG (call0 ih) := sim_enter P hC simG_no
    obtain ⟨hb, hg⟩ := sim_enter P hC h0 f args none H e R' H' h
    refine ⟨hb, fun ρ vs c cs w r ha => ?_⟩
    obtain ⟨ρ', cs', w', k1, k2, k3, k4⟩ := hg ρ vs .normal (c :: cs) w r ha (fun fr hfr => by unfold tryRecover; rw [hfr])
    cases k3
    exact ⟨ρ', w', k1, k2, ends_normal k4⟩
end
end
end Go.Proofs.YtmikbfdpenggjaaGreatDoor.Cv
namespace Go.Proofs.YtmikbfdpenggjaaGreatDoor.Cv
open Go
noncomputable section
theorem setParams_rt {ρ : Rho} {nt : Nat} : ∀ (ps : List Nat) (vals : List V) (us : List Value) (T T' : Tr V) (tm : Array Value), setParams ps vals nt T = some T' → RVs ρ vals us → RT ρ nt T tm →
    ps.length = us.length ∧ RT ρ nt T' ((ps.zip us).foldl (fun tmps (x : Nat × Value) => tmps.setIfInBounds x.1 x.2) tm)
  | [], [], us, T, T', tm, h, hr, t => by cases hr; injection h with h; subst h; exact ⟨rfl, t⟩
  | [], _ :: _, us, T, T', tm, h, hr, t => by cases h
  | _ :: _, [], us, T, T', tm, h, hr, t => by cases h
  | p :: ps, v :: vals, us, T, T', tm, h, hr, t => by
    obtain ⟨u, us', rfl, h1, h2⟩ := hr
    unfold setParams at h
    split at h
    · rename_i hlt
      have hput : put nt T v (some p) = some (T.set v p) := by simp only [put, hlt]
      obtain ⟨k1, k2⟩ := setParams_rt ps vals us' _ T' _ h h2 (t.putT hput h1)
      exact ⟨by simp [k1], k2⟩
    · cases h
theorem RcTo.none_inv {cs cs' : List Frame} {R : Option V} (h : RcTo none cs R cs') : R = none ∧ cs' = cs := by cases h; exact ⟨rfl, rfl⟩
theorem round_mk (l : Nat) (f : FuncId) (tmps : Array Value) (asg bd : Code) : Frame.round l f tmps asg bd .normal = mkF ⟨f, .normal, some l⟩ tmps [] [.code asg, .beginRound, .code bd] .run := rfl
section
variable {b : FB} {tm : Array Value} {df : List Deferred} {k : List Item} {cs : List Frame} {w w' : World}
theorem st_begin {l : Nat} {lp : Loop} (hb : b.rd = some l) (hl : w.heap[l]? = some (.loop lp)) (hr : lp.state = .ready) :
    Steps Pg (lone (mkF b tm df (.beginRound :: k) .run) cs w) (lone (mkF b tm df k .run) cs { w with heap := w.heap.setIfInBounds l (.loop { lp with state := .busy }) }) := by
  have hrun : (Instr.beginRound l).run Pg w = .ok () { w with heap := w.heap.setIfInBounds l (.loop { lp with state := .busy }) } := by
    simp [Instr.beginRound, Instr.getLoop, run_getOther hl (by simp), run_setOther hl, hr]
  refine step_of ?_
  simp [stepG, stepG.exec, stepG.apply, mkF, hb, hrun, Frame.finish]
theorem run_endRound {l : Nat} {lp : Loop} {j : Option Code} (hl : w.heap[l]? = some (.loop lp)) :
    (Instr.endRound l j).run Pg w = .ok (.bool j.isNone) { w with heap := w.heap.setIfInBounds l (.loop { lp with state := if j.isNone then .ready else .done, pending := j }) } := by
  simp [Instr.endRound, Instr.getLoop, run_getOther hl (by simp), run_setOther hl]
theorem st_round_end {l : Nat} {lp : Loop} {c : Frame} (hb : b.rd = some l) (hk : b.kind = .normal) (hl : w.heap[l]? = some (.loop lp)) :
    Steps Pg (lone (mkF b tm df [] .run) (c :: cs) w) (lone (c.finish (.bool true)) cs { w with heap := w.heap.setIfInBounds l (.loop { lp with state := .ready, pending := none }) }) := by
  have hr := run_endRound (w := w) (j := none) hl
  refine step_of ?_
  simp [stepG, stepG.exec, mkF, hb, hk, hr, doReturn]
theorem st_round_ret {l : Nat} {lp : Loop} {c : Frame} (hb : b.rd = some l) (hk : b.kind = .normal) (hl : w.heap[l]? = some (.loop lp)) :
    Steps Pg (lone (mkF b tm df (.code .ret :: k) .run) (c :: cs) w) (lone (c.finish (.bool false)) cs { w with heap := w.heap.setIfInBounds l (.loop { lp with state := .done, pending := some .ret }) }) := by
  have hr := run_endRound (w := w) (j := some .ret) hl
  refine step_of ?_
  simp [stepG, stepG.exec, mkF, hb, hk, hr, doReturn]
theorem st_round_exit {l j : Nat} {lp : Loop} {c : Frame} (hb : b.rd = some l) (hk : b.kind = .normal) (hl : w.heap[l]? = some (.loop lp)) (he : exitTo j k = none) :
    Steps Pg (lone (mkF b tm df (.code (.exit j) :: k) .run) (c :: cs) w) (lone (c.finish (.bool false)) cs { w with heap := w.heap.setIfInBounds l (.loop { lp with state := .done, pending := some (.exit j) }) }) := by
  have hr := run_endRound (w := w) (j := some (.exit j)) hl
  refine step_of ?_
  simp [stepG, stepG.exec, mkF, hb, hk, hr, doReturn, he]
theorem st_round_panic {c : Frame} {fn : Func} {v : Value} (hf : Pg.funcs[b.fn]? = some fn) :
    Steps Pg (lone (mkF b tm [] k (.panicking [pEnt v false])) (c :: cs) w) (lone (c.raise [pEnt v false]) cs w) := by
  refine step_of ?_
  simp [stepG, mkF, unwind, hf, Frame.catches]
end
section
variable {M : Memo} {ih : Ih}
/-- the body of a range over a function: one round -/
theorem sim_yield (hC : SimC ih) : SimY ih := by
  intro l args H e R' H' h ρ vs lb n c cs w r hb ha
  have h : yieldO ih l args H (H.get l) = .ok e R' H' := h
  cases eg : H.get l with
  | none => rw [eg] at h; cases h
  | some ob =>
    rw [eg] at h
    cases ob <;> first | (cases h; done) | skip
    rename_i st pend nt T params assign body d
    obtain ⟨b', n', e1, f, tm, rd, nd, e2, e3, e4, fn, hfn⟩ := r.obj l _ eg rfl
    rw [hb] at e1
    injection e1 with e1; injection e1 with e1 e1'; subst e1 e1'
    have h : round1 ih l nt assign body H (setParams params args nt T) = .ok e R' H' := h
    cases es : setParams params args nt T with
    | none => rw [es] at h; cases h
    | some T1 =>
      rw [es] at h
      obtain ⟨hlen, hrt⟩ := setParams_rt params args vs T T1 tm es ha e4
      refine ⟨f, (params.zip vs).foldl (fun tmps (x : Nat × Value) => tmps.setIfInBounds x.1 x.2) tm, assign, body, ?_, ?_⟩
      · have hsz : vs.toArray.size = params.toArray.size := by simp [hlen]
        simp [Instr.yield, Instr.getLoop, run_getOther e2 (by simp), hlen]
      · have h : roundBody ih l body (ih assign T1 (.mk nt [] none (some l)) H) = .ok e R' H' := h
        have s0 : St ρ T1 (.mk nt [] none (some l)) H ⟨f, .normal, some lb⟩ ((params.zip vs).foldl (fun tmps (x : Nat × Value) => tmps.setIfInBounds x.1 x.2) tm) [] (c :: cs) w :=
          ⟨r, hrt, rfl, fun fr hfr => by unfold tryRecover; rw [hfr], ⟨lb, n, hb, rfl⟩, fn, hfn⟩
        cases h1 : ih assign T1 (.mk nt [] none (some l)) H with
        | no => rw [h1] at h; cases h
        | ok x1 T2 F2 H2 =>
          rw [h1] at h
          cases x1 with
          | exit j => cases h
          | ret => cases h
          | panic v => cases h
          | normal =>
            obtain ⟨ρ1, tm1, df1, cs1, w1, s1, to1, rc1, l1⟩ := hC assign T1 _ H .normal T2 F2 H2 h1 ρ _ _ [] [.beginRound, .code body] (c :: cs) w s0
            obtain ⟨hR2, rfl⟩ := RcTo.none_inv rc1
            have h : beginR ih l body T2 F2 H2 (H2.get l) = .ok e R' H' := h
            cases eg2 : H2.get l with
            | none => rw [eg2] at h; cases h
            | some ob2 =>
              rw [eg2] at h
              cases ob2 <;> first | (cases h; done) | skip
              rename_i st2 pend2 nt2 T22 ps2 as2 bd2 d2
              cases st2 <;> first | (cases h; done) | skip
              obtain ⟨b', n', e1, f2, tm2, rd2, nd2, g2, g3, g4, fn2, hfn2⟩ := s1.heap.obj l _ eg2 rfl
              rw [to1.ext _ _ hb] at e1
              injection e1 with e1; injection e1 with e1 e1'; subst e1 e1'
              have h : roundEnd l (ih body T2 F2 (H2.set l (.lp .busy pend2 nt2 T22 ps2 as2 bd2 d2))) = .ok e R' H' := h
              have up := upd_set (.loop { state := .busy, pending := pend2, fn := f2, tmps := tm2, params := ps2.toArray, assign := as2, body := bd2, defers := rd2 }) g2
              have hu := s1.heap.upd (o' := .lp .busy pend2 nt2 T22 ps2 as2 bd2 d2) eg2 rfl (to1.ext _ _ hb) up (.inl rfl) ⟨f2, tm2, rd2, nd2, rfl, g3, g4, fn2, hfn2⟩
              rw [← get_set_fun, ← Hp.nx_set H2 l (.lp .busy pend2 nt2 T22 ps2 as2 bd2 d2)] at hu
              have st1 := st_begin (b := ⟨f, .normal, some lb⟩) (tm := tm1) (df := df1) (k := [.code body]) (cs := c :: cs) rfl g2 rfl
              have l1 : Steps Pg _ _ := l1
              have hu1 : RH ρ1 (H2.set l (.lp .busy pend2 nt2 T22 ps2 as2 bd2 d2)).get (H2.set l (.lp .busy pend2 nt2 T22 ps2 as2 bd2 d2)).nx { w1 with heap := w1.heap.setIfInBounds lb (.loop { state := .busy, pending := pend2, fn := f2, tmps := tm2, params := ps2.toArray, assign := as2, body := bd2, defers := rd2 }) } := by
                rw [Hp.nx_set] at hu ⊢; exact hu.1
              have hu2 : To ρ1 H2.get H2.nx w1 ρ1 (H2.set l (.lp .busy pend2 nt2 T22 ps2 as2 bd2 d2)).get (H2.set l (.lp .busy pend2 nt2 T22 ps2 as2 bd2 d2)).nx { w1 with heap := w1.heap.setIfInBounds lb (.loop { state := .busy, pending := pend2, fn := f2, tmps := tm2, params := ps2.toArray, assign := as2, body := bd2, defers := rd2 }) } := by
                rw [Hp.nx_set] at hu ⊢; exact hu.2
              cases h3 : ih body T2 F2 (H2.set l (.lp .busy pend2 nt2 T22 ps2 as2 bd2 d2)) with
              | no => rw [h3] at h; cases h
              | ok x T4 F4 H4 =>
                rw [h3] at h
                obtain ⟨ρ4, tm4, df4, cs4, w4, s4, to4, rc4, l4⟩ := hC body T2 F2 _ x T4 F4 H4 h3 ρ1 _ tm1 df1 [] (c :: cs) _ ⟨hu1, s1.tmps, s1.dfs, s1.rc, s1.rd, s1.fok⟩
                rw [hR2] at rc4
                obtain ⟨hR4, rfl⟩ := RcTo.none_inv rc4
                obtain ⟨nt4, D4, R4, rd4⟩ := F4
                cases D4 with
                | cons d0 D4 => cases h
                | nil =>
                  have hdf : df4 = [] := s4.dfs
                  subst hdf
                  have to : To ρ H.get H.nx w ρ4 H4.get H4.nx w4 := to1.trans (hu2.trans to4)
                  have h : endRound l H4 x (H4.get l) = .ok e R' H' := h
                  cases eg4 : H4.get l with
                  | none => rw [eg4] at h; cases h
                  | some ob4 =>
                    rw [eg4] at h
                    cases ob4 <;> first | (cases h; done) | skip
                    rename_i st5 pend5 nt5 T5 ps5 as5 bd5 d5
                    obtain ⟨b', n', e1, f5, tm5, rd5, nd5, j2, j3, j4, j5⟩ := s4.heap.obj l _ eg4 rfl
                    have hbl : ρ4 l = some (lb, n) := to.ext _ _ hb
                    rw [hbl] at e1
                    injection e1 with e1; injection e1 with e1 e1'; subst e1 e1'
                    have fin : ∀ (st' : LoopState) (pn : Option Code), RH ρ4 (H4.set l (.lp st' pn nt5 T5 ps5 as5 bd5 d5)).get (H4.set l (.lp st' pn nt5 T5 ps5 as5 bd5 d5)).nx { w4 with heap := w4.heap.setIfInBounds lb (.loop { state := st', pending := pn, fn := f5, tmps := tm5, params := ps5.toArray, assign := as5, body := bd5, defers := rd5 }) } ∧
                        To ρ4 H4.get H4.nx w4 ρ4 (H4.set l (.lp st' pn nt5 T5 ps5 as5 bd5 d5)).get (H4.set l (.lp st' pn nt5 T5 ps5 as5 bd5 d5)).nx { w4 with heap := w4.heap.setIfInBounds lb (.loop { state := st', pending := pn, fn := f5, tmps := tm5, params := ps5.toArray, assign := as5, body := bd5, defers := rd5 }) } := by
                      intro st' pn
                      have up := upd_set (.loop { state := st', pending := pn, fn := f5, tmps := tm5, params := ps5.toArray, assign := as5, body := bd5, defers := rd5 }) j2
                      have := s4.heap.upd (o' := .lp st' pn nt5 T5 ps5 as5 bd5 d5) eg4 rfl hbl up (.inl rfl) ⟨f5, tm5, rd5, nd5, rfl, j3, j4, j5⟩
                      rw [get_set_fun, Hp.nx_set]
                      exact this
                    rw [round_mk]
                    cases x with
                    | normal =>
                      injection h with e1 e2 e3
                      subst e1 e2 e3
                      have l4 : Steps Pg _ _ := l4
                      exact ⟨ρ4, _, (fin .ready none).1, to.trans (fin .ready none).2, .bool true, rfl, (l1.trans st1).trans (l4.trans (st_round_end rfl rfl j2))⟩
                    | ret =>
                      injection h with e1 e2 e3
                      subst e1 e2 e3
                      obtain ⟨k2, l4⟩ := l4
                      exact ⟨ρ4, _, (fin .done (some .ret)).1, to.trans (fin .done (some .ret)).2, .bool false, rfl, (l1.trans st1).trans (l4.trans (st_round_ret rfl rfl j2))⟩
                    | exit j =>
                      injection h with e1 e2 e3
                      subst e1 e2 e3
                      obtain ⟨k2, e2, l4⟩ := l4
                      exact ⟨ρ4, _, (fin .done (some (.exit j))).1, to.trans (fin .done (some (.exit j))).2, .bool false, rfl, (l1.trans st1).trans (l4.trans (st_round_exit rfl rfl j2 (by rw [e2]; rfl)))⟩
                    | panic v =>
                      injection h with e1 e2 e3
                      subst e1 e2 e3
                      obtain ⟨v', td, hv, l4⟩ := l4
                      exact ⟨ρ4, w4, s4.heap, to, v', hv, (l1.trans st1).trans (l4.trans (st_round_panic (b := ⟨f, .normal, some lb⟩) hfn))⟩
variable {b : FB} {tm : Array Value} {df : List Deferred} {k : List Item} {cs : List Frame} {w w' : World}
theorem st_range (P : PgOk) {g : FuncId} {caps : Array Value} {fn : Func} {c : Code} (h1 : Pg.funcs[g]? = some fn) (h2 : fn.body = some c) {f : Operand} {params : Array Tmp} {assign body : Code} {l : Nat} {mk : List Deferred}
    (hf : evm tm f = .func (.func g) #[] caps) (he : (Instr.enterLoop b.fn tm params assign body b.rd).run Pg w = .ok (l, mk) w') :
    Steps Pg (lone (mkF b tm df (.code (.rangeFunc f params assign body) :: k) .run) cs w) (lone (Frame.enter Pg g (.func (.yield l) #[] #[] :: caps.toList).toArray .normal) (mkF b tm (mk ++ df) (.inRangeFunc l :: k) .run :: cs) w') := by
  have hn : ¬ fn.name = "runtime.NumGoroutine" := by simpa using P.name g fn h1
  have hev : (mkF b tm (mk ++ df) (.inRangeFunc l :: k) .run).eval f = .func (.func g) #[] caps := by rw [eval_mk]; exact hf
  have hc : #[Value.func (.yield l) #[] #[]] ++ caps = (Value.func (.yield l) #[] #[] :: caps.toList).toArray := by apply Array.toList_inj.1; simp
  have hev2 : (mkF b tm (mk ++ df) (.inRangeFunc l :: k) .run).eval (.const (.func (.yield l) #[] #[])) = .func (.yield l) #[] #[] := rfl
  have hrun : (do let d ← resolve (mkF b tm (mk ++ df) (.inRangeFunc l :: k) .run).eval { callee := .value f, args := #[.const (.func (.yield l) #[] #[])], argTypes := #[] } 0; invoke d.target d.args : Sem Next).run Pg w' =
      .ok (.enter g (.func (.yield l) #[] #[] :: caps.toList).toArray) w' := by
    simp [resolve, hev, hev2, Deferred.ofValue, invoke, callFunc, h1, h2, hn, hc]
  refine step_of ?_
  simp only [mkF] at hrun ⊢
  simp only [Sem.run_bind] at hrun
  simp [stepG, stepG.exec, he, stepG.apply, hrun]
theorem st_endLoop {l : Nat} {lp : Loop} (hl : w.heap[l]? = some (.loop lp)) (hb : lp.state ≠ .busy) :
    Steps Pg (lone (mkF b tm df (.endRangeFunc l :: k) .run) cs w) (lone (mkF b tm df ((lp.pending.map Item.code).toList ++ k) .run) cs { w with heap := w.heap.setIfInBounds l (.loop { lp with state := .exhausted }) }) := by
  have hr : (Instr.endLoop l).run Pg w = .ok lp.pending { w with heap := w.heap.setIfInBounds l (.loop { lp with state := .exhausted }) } := by
    simp [Instr.endLoop, Instr.getLoop, run_getOther hl (by simp), run_setOther hl, hb]
  refine step_of ?_
  simp [stepG, stepG.exec, mkF, hr]
/-- behind the entry of the loop -/
theorem sim_ranged (P : PgOk) (hC : SimC ih) (hN : SimN (callF M ih · · none)) {ρ : Rho} {T T' : Tr V} {F F' : Fr} {H H' : Hp} {x : X} {f : Operand} {params : Array Tmp} {assign body : Code} {g l lb n : Nat} {cap : List V} {caps : Array Value} {mk : List Deferred}
    (h : ranged ih l T F (callF M ih g (.yd l :: cap) none H) = .ok x T' F' H') (hf : evm tm f = .func (.func g) #[] caps) (hcap : RVs ρ cap caps.toList) (hl : ρ l = some (lb, n))
    (he : (Instr.enterLoop b.fn tm params assign body b.rd).run Pg w = .ok (lb, mk) w') (s : St ρ T F H b tm (mk ++ df) cs w') :
    Goes ρ F H cs w' (lone (mkF b tm df (.code (.rangeFunc f params assign body) :: k) .run) cs w) b k x T' F' H' := by
  cases hq : callF M ih g (.yd l :: cap) none H with
  | no => rw [hq] at h; cases h
  | ok e R1 H1 =>
    rw [hq] at h
    obtain ⟨⟨fn, cd, hb1, hb2⟩, hgo⟩ := hN g (.yd l :: cap) H e R1 H1 hq
    have s1 := st_range (df := df) (k := k) (cs := cs) P hb1 hb2 hf he
    obtain ⟨ρ1, w1, k1, k2, k3⟩ := hgo ρ (.func (.yield lb) #[] #[] :: caps.toList) (mkF b tm (mk ++ df) (.inRangeFunc lb :: k) .run) cs w' s.heap (.cons ⟨lb, n, hl, rfl⟩ hcap)
    cases e with
    | pan v =>
      injection h with e1 e2 e3 e4
      subst e1 e2 e3 e4
      obtain ⟨v', h7, h8⟩ := k3
      rw [raise_mk] at h8
      exact ⟨ρ1, tm, mk ++ df, cs, w1, ⟨k1, s.tmps.mono k2.ext, s.dfs.mono k2.ext, s.rc.mono k2.ext, s.rd.mono k2.ext, s.fok⟩, k2, .same _ _, v', _, h7, s1.trans h8⟩
    | ret v =>
      obtain ⟨v', h7, h8⟩ := k3
      have h : endLoop ih l T F H1 (H1.get l) = .ok x T' F' H' := h
      cases eg : H1.get l with
      | none => rw [eg] at h; cases h
      | some ob =>
        rw [eg] at h
        cases ob <;> first | (cases h; done) | skip
        rename_i st pend nt2 T2 ps2 as2 bd2 d2
        obtain ⟨b', n', e1, f5, tm5, rd5, nd5, j2, j3, j4, j5⟩ := k1.obj l _ eg rfl
        have hbl : ρ1 l = some (lb, n) := k2.ext _ _ hl
        rw [hbl] at e1
        injection e1 with e1; injection e1 with e1 e1'; subst e1 e1'
        have hst : st ≠ .busy ∧ jumpA ih T F (H1.set l (.lp .exhausted pend nt2 T2 ps2 as2 bd2 d2)) pend = .ok x T' F' H' := by
          cases st with
          | busy => cases h
          | ready => exact ⟨by simp, h⟩
          | done => exact ⟨by simp, h⟩
          | exhausted => exact ⟨by simp, h⟩
        obtain ⟨hst, h⟩ := hst
        have up := upd_set (.loop { state := .exhausted, pending := pend, fn := f5, tmps := tm5, params := ps2.toArray, assign := as2, body := bd2, defers := rd5 }) j2
        have hu := k1.upd (o' := .lp .exhausted pend nt2 T2 ps2 as2 bd2 d2) eg rfl hbl up (.inl rfl) ⟨f5, tm5, rd5, nd5, rfl, j3, j4, j5⟩
        have hu' : RH ρ1 (H1.set l (.lp .exhausted pend nt2 T2 ps2 as2 bd2 d2)).get (H1.set l (.lp .exhausted pend nt2 T2 ps2 as2 bd2 d2)).nx { w1 with heap := w1.heap.setIfInBounds lb (.loop { state := .exhausted, pending := pend, fn := f5, tmps := tm5, params := ps2.toArray, assign := as2, body := bd2, defers := rd5 }) } ∧
            To ρ1 H1.get H1.nx w1 ρ1 (H1.set l (.lp .exhausted pend nt2 T2 ps2 as2 bd2 d2)).get (H1.set l (.lp .exhausted pend nt2 T2 ps2 as2 bd2 d2)).nx { w1 with heap := w1.heap.setIfInBounds lb (.loop { state := .exhausted, pending := pend, fn := f5, tmps := tm5, params := ps2.toArray, assign := as2, body := bd2, defers := rd5 }) } := by
          rw [get_set_fun, Hp.nx_set]; exact hu
        have hfin : (mkF b tm (mk ++ df) (.inRangeFunc lb :: k) .run).finish v' = mkF b tm (mk ++ df) (.endRangeFunc lb :: k) .run := rfl
        rw [hfin] at h8
        have s2 := st_endLoop (b := b) (tm := tm) (df := mk ++ df) (k := k) (cs := cs) j2 hst
        have s' : St ρ1 T F (H1.set l (.lp .exhausted pend nt2 T2 ps2 as2 bd2 d2)) b tm (mk ++ df) cs { w1 with heap := w1.heap.setIfInBounds lb (.loop { state := .exhausted, pending := pend, fn := f5, tmps := tm5, params := ps2.toArray, assign := as2, body := bd2, defers := rd5 }) } :=
          ⟨hu'.1, s.tmps.mono k2.ext, s.dfs.mono k2.ext, s.rc.mono k2.ext, s.rd.mono k2.ext, s.fok⟩
        have all := s1.trans (h8.trans s2)
        cases pend with
        | none =>
          injection h with e1 e2 e3 e4
          subst e1 e2 e3 e4
          exact ⟨ρ1, tm, mk ++ df, cs, _, s', k2.trans hu'.2, .same _ _, all⟩
        | some cd =>
          exact .step (F₁ := F) all (k2.trans hu'.2) (.same _ _) (hC cd T F _ x T' F' H' h ρ1 b tm (mk ++ df) k cs _ s')
theorem sim_range (P : PgOk) (hC : SimC ih) (hN : SimN (callF M ih · · none)) : SimRange M ih := by
  intro f params assign body T F H x T' F' H' h ρ b tm df k cs w s
  unfold rangeV at h
  split at h
  · rename_i g cap ef
    obtain ⟨caps, hf, hcap⟩ := ev_rel s.heap.glob s.tmps ef
    obtain ⟨nt, D, R, rd⟩ := F
    obtain ⟨fn, hfn⟩ := s.fok
    cases rd with
    | none =>
      have hrd : b.rd = none := s.rd
      have h : ranged ih (H.new .df).nx T (.mk nt (.coll H.nx :: D) R none) (callF M ih g (.yd (H.new .df).nx :: cap) none ((H.new .df).new (.lp .ready none nt T params.toList assign body H.nx))) = .ok x T' F' H' := h
      -- the block of the deferred calls
      have a1 := s.heap.add (x := H.nx) (n := 0) (nx' := H.nx + 1) (o := .df) (ob := .deferred (some [])) (w' := { w with heap := w.heap.push (.deferred (some [])) }) (s.heap.fresh _ (Nat.le_refl _)) (by omega) (by omega) (by omega) rfl rfl rfl
      rw [← get_new_fun, ← Hp.nx_new H .df] at a1
      -- the loop
      have a2 := a1.1.add (x := (H.new .df).nx) (n := 0) (nx' := (H.new .df).nx + 1) (o := .lp .ready none nt T params.toList assign body H.nx)
        (ob := .loop { state := .ready, pending := none, fn := b.fn, tmps := tm, params := params, assign, body, defers := w.heap.size })
        (w' := { w with heap := (w.heap.push (.deferred (some []))).push (.loop { state := .ready, pending := none, fn := b.fn, tmps := tm, params := params, assign, body, defers := w.heap.size }) })
        (a1.1.fresh _ (Nat.le_refl _)) (by omega) (by omega) (by omega) rfl rfl
        ⟨b.fn, tm, w.heap.size, 0, by simp, ext_updR (a1.1.fresh _ (Nat.le_refl _)) _ _ (by simp [updR]), (s.tmps.mono a1.2.ext).mono (ext_updR (a1.1.fresh _ (Nat.le_refl _))), fn, hfn⟩
      rw [← get_new_fun, ← Hp.nx_new (H.new .df)] at a2
      have to := a1.2.trans a2.2
      have hlb : (updR (updR ρ H.nx w.heap.size 0) (H.new .df).nx (w.heap.push (.deferred (some []))).size 0) (H.new .df).nx = some (w.heap.size + 1, 0) := by simp [updR]
      have he : (Instr.enterLoop b.fn tm params assign body b.rd).run Pg w = .ok (w.heap.size + 1, [{ target := .collected w.heap.size, args := #[] }]) { w with heap := (w.heap.push (.deferred (some []))).push (.loop { state := .ready, pending := none, fn := b.fn, tmps := tm, params := params, assign, body, defers := w.heap.size }) } := by
        simp [Instr.enterLoop, hrd]
        rfl
      have hdf : RDs (updR (updR ρ H.nx w.heap.size 0) (H.new .df).nx (w.heap.push (.deferred (some []))).size 0) (.coll H.nx :: D) ({ target := .collected w.heap.size, args := #[] } :: df) :=
        ⟨_, _, rfl, ⟨w.heap.size, 0, a2.2.ext _ _ (by simp [updR]), rfl⟩, s.dfs.mono to.ext⟩
      have hg := sim_ranged (M := M) (ih := ih) (k := k) (df := df) (mk := [{ target := .collected w.heap.size, args := #[] }]) P hC hN h hf (hcap.mono to.ext) hlb he
        ⟨a2.1, s.tmps.mono to.ext, hdf, s.rc.mono to.ext, s.rd.mono to.ext, s.fok⟩
      obtain ⟨ρ', tm', df', cs', w', z1, z2, z3, z4⟩ := hg
      exact ⟨ρ', tm', df', cs', w', z1, to.trans z2, z3, z4⟩
    | some l0 =>
      have h : rangeR M ih g cap params assign body T nt (.mk nt D R (some l0)) H (defersOf (H.get l0)) = .ok x T' F' H' := h
      obtain ⟨lb0, n0, hb0, hrd⟩ := s.rd
      cases eg : H.get l0 with
      | none => rw [eg] at h; cases h
      | some ob =>
        rw [eg] at h
        cases ob <;> first | (cases h; done) | skip
        rename_i st0 pend0 nt0 T0 ps0 as0 bd0 d0
        have h : ranged ih H.nx T (.mk nt D R (some l0)) (callF M ih g (.yd H.nx :: cap) none (H.new (.lp .ready none nt T params.toList assign body d0))) = .ok x T' F' H' := h
        obtain ⟨b', n', e1, f0, tm0, rd0, nd0, g2, g3, g4⟩ := s.heap.obj l0 _ eg rfl
        rw [hb0] at e1
        injection e1 with e1; injection e1 with e1 e1'; subst e1 e1'
        have a2 := s.heap.add (x := H.nx) (n := 0) (nx' := H.nx + 1) (o := .lp .ready none nt T params.toList assign body d0)
          (ob := .loop { state := .ready, pending := none, fn := b.fn, tmps := tm, params := params, assign, body, defers := rd0 })
          (w' := { w with heap := w.heap.push (.loop { state := .ready, pending := none, fn := b.fn, tmps := tm, params := params, assign, body, defers := rd0 }) })
          (s.heap.fresh _ (Nat.le_refl _)) (by omega) (by omega) (by omega) rfl rfl
          ⟨b.fn, tm, rd0, nd0, by simp, ext_updR (s.heap.fresh _ (Nat.le_refl _)) _ _ g3, s.tmps.mono (ext_updR (s.heap.fresh _ (Nat.le_refl _))), fn, hfn⟩
        rw [← get_new_fun, ← Hp.nx_new H] at a2
        have he : (Instr.enterLoop b.fn tm params assign body b.rd).run Pg w = .ok (w.heap.size, []) { w with heap := w.heap.push (.loop { state := .ready, pending := none, fn := b.fn, tmps := tm, params := params, assign, body, defers := rd0 }) } := by
          simp [Instr.enterLoop, hrd, Instr.getLoop, run_getOther g2]
        have hlb : (updR ρ H.nx w.heap.size 0) H.nx = some (w.heap.size, 0) := by simp [updR]
        have hg := sim_ranged (M := M) (ih := ih) (k := k) (df := df) (mk := []) P hC hN h hf (hcap.mono a2.2.ext) hlb he
          ⟨a2.1, s.tmps.mono a2.2.ext, s.dfs.mono a2.2.ext, s.rc.mono a2.2.ext, s.rd.mono a2.2.ext, s.fok⟩
        obtain ⟨ρ', tm', df', cs', w', z1, z2, z3, z4⟩ := hg
        exact ⟨ρ', tm', df', cs', w', z1, a2.2.trans z2, z3, z4⟩
  · cases h
end
end
end Go.Proofs.YtmikbfdpenggjaaGreatDoor.Cv
