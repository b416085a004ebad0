/- An evaluator for closed runs of the translated program: values, heaps, operations, control, calls. Definitions, and laws of the trees that hold temporaries. Conditions: those stated in each theorem. -/
import GoSem.Dispatch
import Derived.Test.YtmikbfdpenggjaaGreatDoorProg
namespace Go.Proofs.YtmikbfdpenggjaaGreatDoor.Cv
open Go
noncomputable section

inductive V where
  | b (x : Bool) | i (k : IntKind) (n : Int) | s (l : List Nat) | np | p (x o : Nat) | nsl | se | sl (x o len cap esz : Nat)
  | nm | m (x : Nat) | fn (f : Nat) (c : List V) | yd (x : Nat) | nf | ifc (t : Nat) (v : V) | nifc | agg (l : List V) | tup (l : List V) | un | md (m r : Nat)
  deriving Inhabited

inductive Tr (α : Type) where
  | e | n (v : Option α) (l r : Tr α)

def Tr.get' {α : Type} : Tr α → Nat → Option α
  | .e, _ => none
  | .n v l r, k => match Nat.beq k 0 with
    | true => v
    | false => match Nat.beq (Nat.mod k 2) 1 with
      | true => l.get' (Nat.div k 2)
      | false => r.get' (Nat.pred (Nat.div k 2))
noncomputable def Tr.get {α : Type} (t : Tr α) : Nat → Option α :=
  @Tr.rec α (fun _ => Nat → Option α) (fun _ => none)
    (fun v _ _ gl gr k => @Bool.rec (fun _ => Option α) (@Bool.rec (fun _ => Option α) (gr (Nat.pred (Nat.div k 2))) (gl (Nat.div k 2)) (Nat.beq (Nat.mod k 2) 1)) v (Nat.beq k 0)) t

/-- the empty tree with one entry -/
def Tr.one {α : Type} (x : α) : Nat → Nat → Tr α
  | 0, _ => .e
  | f + 1, k => match Nat.beq k 0 with
    | true => .n (some x) .e .e
    | false => match Nat.beq (Nat.mod k 2) 1 with
      | true => .n none (Tr.one x f (Nat.div k 2)) .e
      | false => .n none .e (Tr.one x f (Nat.pred (Nat.div k 2)))

def Tr.set' {α : Type} (x : α) : Tr α → Nat → Tr α
  | .e, k => Tr.one x (Nat.succ k) k
  | .n v l r, k => match Nat.beq k 0 with
    | true => .n (some x) l r
    | false => match Nat.beq (Nat.mod k 2) 1 with
      | true => .n v (l.set' x (Nat.div k 2)) r
      | false => .n v l (r.set' x (Nat.pred (Nat.div k 2)))
def Tr.setI {α : Type} (t : Tr α) (k : Nat) (x : α) : Tr α := Tr.set' x t k
noncomputable def Tr.put {α : Type} (t : Tr α) : Nat → α → Tr α :=
  @Tr.rec α (fun _ => Nat → α → Tr α) (fun k x => Tr.one x (Nat.succ k) k)
    (fun v l r sl sr k x => @Bool.rec (fun _ => Tr α) (@Bool.rec (fun _ => Tr α) (.n v l (sr (Nat.pred (Nat.div k 2)) x)) (.n v (sl (Nat.div k 2) x) r) (Nat.beq (Nat.mod k 2) 1)) (.n (some x) l r) (Nat.beq k 0)) t
def Tr.set {α : Type} (x : α) (t : Tr α) (k : Nat) : Tr α := t.put k x

/-- k: cells that nobody writes -/
inductive O where
  | c (l : List V) (e : Nat)
  | k (l : List V)
  | m (es : List (V × V × Nat)) (clock : Nat)
  | si (s : List Nat) (pos : Nat)
  | mi (map : Option Nat) (since : Nat) (seen : List Nat) (stepped : Nat)
  | lp (st : LoopState) (pend : Option Code) (nt : Nat) (T : Tr V) (params : List Nat) (assign body : Code) (defers : Nat)
  | df
  | dead

inductive Hp where
  | mk (nx : Nat) (t : Tr O)

def Hp.nx : Hp → Nat | .mk n _ => n
def Hp.get : Hp → Nat → Option O | .mk _ t, x => t.get x
def Hp.set : Hp → Nat → O → Hp | .mk n t, x, o => .mk n (t.set o x)
def Hp.new : Hp → O → Hp | .mk n t, o => .mk (Nat.succ n) (t.set o n)

inductive Df where
  | fn (f : Nat) (args : List V)
  | coll (r : Nat)

/-- the frame's other parts: number of temporaries, deferred calls, the panic that may be recovered, the round -/
inductive Fr where
  | mk (nt : Nat) (D : List Df) (R : Option V) (rd : Option Nat)

inductive X where
  | normal | exit (id : Nat) | ret | panic (v : V)

inductive Res where
  | no
  | ok (x : X) (T : Tr V) (F : Fr) (H : Hp)

inductive E where
  | ret (v : V) | pan (v : V)

/-- what a call gives: the ending, what is left to recover, the heap -/
inductive CRes where
  | no
  | ok (e : E) (R : Option V) (H : Hp)

inductive R where
  | v (x : V)
  | h (x : V) (H : Hp)
  | call (f : Nat) (args : List V)
  | yield (x : Nat) (args : List V)
  | dfr (d : Df)
  | recv
  | pan (v : V)

def byteL : List UInt8 → List Nat
  | [] => []
  | c :: r => c.toNat :: byteL r
def ofVal1 : Value → Option V
  | .bool b => some (.b b)
  | .int k n => some (.i k n)
  | .string s => some (.s (byteL s.data.toList))
  | .pointer none => some .np
  | .slice none 0 0 => some .nsl
  | .map none => some .nm
  | .nilFunc => some .nf
  | .nilIface => some .nifc
  | .tuple ⟨[]⟩ => some (.tup [])
  | .func (.func f) ⟨[]⟩ ⟨[]⟩ => some (.fn f [])
  | _ => none
def cons? : Option V → Option (List V) → Option (List V)
  | some x, some r => some (x :: r)
  | _, _ => none
def ofVals : List Value → Option (List V)
  | [] => some []
  | v :: r => cons? (ofVal1 v) (ofVals r)
def agg? : Option (List V) → Option V
  | some l => some (.agg l)
  | none => none
def ofVal : Value → Option V
  | .agg ⟨l⟩ => agg? (ofVals l)
  | v => ofVal1 v

def asP' : V → Option (Nat × Nat)
  | .p a c => some (a, c)
  | _ => none
noncomputable def asP (v : V) : Option (Nat × Nat) :=
  @V.rec (fun _ => Option (Nat × Nat)) (fun _ => Unit) (fun _ => none) (fun _ _ => none) (fun _ => none) none (fun a c => some (a, c)) none none (fun _ _ _ _ _ => none) none (fun _ => none) (fun _ _ _ => none) (fun _ => none) none (fun _ _ _ => none) none (fun _ _ => none) (fun _ _ => none) none (fun _ _ => none) () (fun _ _ _ _ => ()) v
def asI' : V → Option (IntKind × Int)
  | .i a c => some (a, c)
  | _ => none
noncomputable def asI (v : V) : Option (IntKind × Int) :=
  @V.rec (fun _ => Option (IntKind × Int)) (fun _ => Unit) (fun _ => none) (fun a c => some (a, c)) (fun _ => none) none (fun _ _ => none) none none (fun _ _ _ _ _ => none) none (fun _ => none) (fun _ _ _ => none) (fun _ => none) none (fun _ _ _ => none) none (fun _ _ => none) (fun _ _ => none) none (fun _ _ => none) () (fun _ _ _ _ => ()) v
def asB' : V → Option Bool
  | .b a => some a
  | _ => none
noncomputable def asB (v : V) : Option Bool :=
  @V.rec (fun _ => Option Bool) (fun _ => Unit) (fun a => some a) (fun _ _ => none) (fun _ => none) none (fun _ _ => none) none none (fun _ _ _ _ _ => none) none (fun _ => none) (fun _ _ _ => none) (fun _ => none) none (fun _ _ _ => none) none (fun _ _ => none) (fun _ _ => none) none (fun _ _ => none) () (fun _ _ _ _ => ()) v
def asS' : V → Option (List Nat)
  | .s a => some a
  | _ => none
noncomputable def asS (v : V) : Option (List Nat) :=
  @V.rec (fun _ => Option (List Nat)) (fun _ => Unit) (fun _ => none) (fun _ _ => none) (fun a => some a) none (fun _ _ => none) none none (fun _ _ _ _ _ => none) none (fun _ => none) (fun _ _ _ => none) (fun _ => none) none (fun _ _ _ => none) none (fun _ _ => none) (fun _ _ => none) none (fun _ _ => none) () (fun _ _ _ _ => ()) v
def asAgg' : V → Option (List V)
  | .agg a => some a
  | _ => none
noncomputable def asAgg (v : V) : Option (List V) :=
  @V.rec (fun _ => Option (List V)) (fun _ => Unit) (fun _ => none) (fun _ _ => none) (fun _ => none) none (fun _ _ => none) none none (fun _ _ _ _ _ => none) none (fun _ => none) (fun _ _ _ => none) (fun _ => none) none (fun _ _ _ => none) none (fun a _ => some a) (fun _ _ => none) none (fun _ _ => none) () (fun _ _ _ _ => ()) v
def asTup' : V → Option (List V)
  | .tup a => some a
  | _ => none
noncomputable def asTup (v : V) : Option (List V) :=
  @V.rec (fun _ => Option (List V)) (fun _ => Unit) (fun _ => none) (fun _ _ => none) (fun _ => none) none (fun _ _ => none) none none (fun _ _ _ _ _ => none) none (fun _ => none) (fun _ _ _ => none) (fun _ => none) none (fun _ _ _ => none) none (fun _ _ => none) (fun a _ => some a) none (fun _ _ => none) () (fun _ _ _ _ => ()) v
def asFn' : V → Option (Nat × List V)
  | .fn a c => some (a, c)
  | _ => none
noncomputable def asFn (v : V) : Option (Nat × List V) :=
  @V.rec (fun _ => Option (Nat × List V)) (fun _ => Unit) (fun _ => none) (fun _ _ => none) (fun _ => none) none (fun _ _ => none) none none (fun _ _ _ _ _ => none) none (fun _ => none) (fun a c _ => some (a, c)) (fun _ => none) none (fun _ _ _ => none) none (fun _ _ => none) (fun _ _ => none) none (fun _ _ => none) () (fun _ _ _ _ => ()) v
def V.cells' : V → List V
  | .agg l => l
  | .un => []
  | v => [v]
noncomputable def V.cells (v : V) : List V :=
  @V.rec (fun _ => List V) (fun _ => Unit) (fun a => [.b a]) (fun a c => [.i a c]) (fun a => [.s a]) [.np] (fun a c => [.p a c]) [.nsl] [.se] (fun a c d e f => [.sl a c d e f]) [.nm] (fun a => [.m a]) (fun a c _ => [.fn a c]) (fun a => [.yd a]) [.nf] (fun a c _ => [.ifc a c]) [.nifc] (fun l _ => l) (fun a _ => [.tup a]) [] (fun a c => [.md a c]) () (fun _ _ _ _ => ()) v

/-- the value of one cell -/
def okV' : V → Bool
  | .agg _ => false
  | .tup _ => false
  | .un => false
  | .md _ _ => false
  | _ => true
noncomputable def okV (v : V) : Bool :=
  @V.rec (fun _ => Bool) (fun _ => Unit) (fun _ => true) (fun _ _ => true) (fun _ => true) true (fun _ _ => true) true true (fun _ _ _ _ _ => true) true (fun _ => true) (fun _ _ _ => true) (fun _ => true) true (fun _ _ _ => true) true (fun _ _ => false) (fun _ _ => false) false (fun _ _ => false) () (fun _ _ _ _ => ()) v
def isUn' : V → Bool
  | .un => true
  | _ => false
noncomputable def isUn (v : V) : Bool :=
  @V.rec (fun _ => Bool) (fun _ => Unit) (fun _ => false) (fun _ _ => false) (fun _ => false) false (fun _ _ => false) false false (fun _ _ _ _ _ => false) false (fun _ => false) (fun _ _ _ => false) (fun _ => false) false (fun _ _ _ => false) false (fun _ _ => false) (fun _ _ => false) true (fun _ _ => false) () (fun _ _ _ _ => ()) v
def okL : List V → Bool
  | [] => true
  | x :: r => match okV x with
    | true => okL r
    | false => false
def undefV : V := .tup []
def getU : Option V → V
  | some v => v
  | none => undefV

/-- the number of package variables -/
def ng : Nat := 3
/-- the number of types -/
def nT : Nat := 554
/-- slices.overlaps at the program's operations -/
def ovF : Nat := 309
def glob (g : Nat) : Option V := match Nat.blt g ng with
  | true => some (.p g 0)
  | false => none
def ev' (T : Tr V) : Operand → Option V
  | .tmp t => some (getU (T.get t))
  | .const v => ofVal v
  | .global g => glob g
  | .func f => some (.fn f [])
noncomputable def ev (T : Tr V) (x : Operand) : Option V :=
  @Operand.rec (fun _ => Tr V → Option V) (fun t T => some (getU (T.get t))) (fun v _ => ofVal v) (fun g _ => glob g) (fun f _ => some (.fn f [])) x T

def evs (T : Tr V) : List Operand → Option (List V)
  | [] => some []
  | x :: r => cons? (ev T x) (evs T r)

def consTo (x : V) : Option (List V) → Option (List V)
  | some r => some (x :: r)
  | none => none
/-- the cells from a place on, set to a list -/
def setCells : List V → Nat → List V → Option (List V)
  | l, _, [] => some l
  | [], _, _ :: _ => none
  | x :: r, o, v :: vs => match o with
    | 0 => consTo v (setCells r 0 vs)
    | o + 1 => consTo x (setCells r o (v :: vs))
def takeN : Nat → List V → Option (List V)
  | 0, _ => some []
  | _ + 1, [] => none
  | n + 1, x :: r => consTo x (takeN n r)
def dropN : Nat → List V → List V
  | 0, l => l
  | _ + 1, [] => []
  | n + 1, _ :: r => dropN n r
def sub (l : List V) (o n : Nat) : Option (List V) := takeN n (dropN o l)
def head? : List V → Option V
  | x :: _ => some x
  | [] => none
def nth (l : List V) (o : Nat) : Option V := head? (dropN o l)
def rep (z : List V) : Nat → List V
  | 0 => []
  | n + 1 => z ++ rep z n

/-! integers -/
def ltI : Int → Int → Bool
  | .ofNat a, .ofNat b => Nat.blt a b
  | .ofNat _, .negSucc _ => false
  | .negSucc _, .ofNat _ => true
  | .negSucc a, .negSucc b => Nat.blt b a
def eqI : Int → Int → Bool
  | .ofNat a, .ofNat b => Nat.beq a b
  | .ofNat _, .negSucc _ => false
  | .negSucc _, .ofNat _ => false
  | .negSucc a, .negSucc b => Nat.beq b a
/-- numbers up to this have the same meaning in the kind -/
def topI : IntKind → Nat
  | .i8 => 127 | .i16 => 32767 | .i32 => 2147483647 | .i64 => 9223372036854775807
  | .u8 => 255 | .u16 => 65535 | .u32 => 4294967295 | .u64 => 18446744073709551615
def wrapI (k : IntKind) : Int → Int
  | .ofNat a => match Nat.ble a (topI k) with
    | true => .ofNat a
    | false => k.wrap (.ofNat a)
  | .negSucc a => match k with
    | .i64 => match Nat.ble a 9223372036854775807 with
      | true => .negSucc a
      | false => IntKind.i64.wrap (.negSucc a)
    | k => k.wrap (.negSucc a)
def eqK : IntKind → IntKind → Bool
  | .i8, .i8 | .i16, .i16 | .i32, .i32 | .i64, .i64 | .u8, .u8 | .u16, .u16 | .u32, .u32 | .u64, .u64 => true
  | _, _ => false

def eqS : List Nat → List Nat → Bool
  | [], [] => true
  | a :: x, b :: y => match Nat.beq a b with
    | true => eqS x y
    | false => false
  | _, _ => false
def ltS : List Nat → List Nat → Bool
  | _, [] => false
  | [], _ :: _ => true
  | a :: x, b :: y => match Nat.blt a b with
    | true => true
    | false => match Nat.beq a b with
      | true => ltS x y
      | false => false

def both : Bool → Bool → Bool
  | true, b => b
  | false, _ => false

/-- pointers are compared only if one is nil, or they lie in one block -/
def eqP : V → V → Option Bool
  | .np, .np => some true
  | .np, .p _ _ => some false
  | .p _ _, .np => some false
  | .p x o, .p y q => match Nat.beq x y with
    | true => some (Nat.beq o q)
    | false => none
  | _, _ => none
def eqSl : V → V → Option Bool
  | .nsl, .nsl => some true
  | .nsl, .sl .. => some false
  | .sl .., .nsl => some false
  | .nsl, .se => some false
  | .se, .nsl => some false
  | _, _ => none
def eqM : V → V → Option Bool
  | .nm, .nm => some true
  | .nm, .m _ => some false
  | .m _, .nm => some false
  | _, _ => none
def eqFn : V → V → Option Bool
  | .nf, .nf => some true
  | .nf, .fn .. => some false
  | .fn .., .nf => some false
  | _, _ => none
def eqIf (two : Bool) : V → V → Option Bool
  | .nifc, .nifc => match two with
    | true => some true
    | false => none
  | .nifc, .ifc .. => some false
  | .ifc .., .nifc => some false
  | _, _ => none
def eqBo : V → V → Option Bool
  | .b a, .b c => some (a == c)
  | _, _ => none
def eqIn : V → V → Option Bool
  | .i k a, .i k' c => match eqK k k' with
    | true => some (eqI a c)
    | false => none
  | _, _ => none
def eqSt : V → V → Option Bool
  | .s a, .s c => some (eqS a c)
  | _, _ => none
/-- values of a simple type -/
def eqS1 (d : Option TypeDesc) (x y : V) : Option Bool := match d with
  | some (.int _) => eqIn x y
  | some .string => eqSt x y
  | some .bool => eqBo x y
  | _ => none
end
end Go.Proofs.YtmikbfdpenggjaaGreatDoor.Cv
namespace Go.Proofs.YtmikbfdpenggjaaGreatDoor.Cv
@[irreducible] noncomputable def Pg : Go.Program := Go.Proofs.Tryz.prog
end Go.Proofs.YtmikbfdpenggjaaGreatDoor.Cv
namespace Go.Proofs.YtmikbfdpenggjaaGreatDoor.Cv
open Go
noncomputable section
/-! types -/
def und (t : TypeId) : Option TypeDesc := Pg.underlying t
def siz (t : TypeId) : Option Nat := match Pg.info? t with
  | some i => some i.size
  | none => none
def aggOf : Option TypeDesc → Option Bool
  | some (.struct _) => some true
  | some (.array _ _) => some true
  | some _ => some false
  | none => none
def isAgg (t : TypeId) : Option Bool := aggOf (und t)
def zeroOf : Option TypeInfo → Option V
  | some i => match i.zero with
    | some z => ofVal z
    | none => none
  | none => none
def zeroV (t : TypeId) : Option V := match Nat.blt t nT with
  | true => zeroOf (Pg.info? t)
  | false => none
def sliceElem (t : TypeId) : Option TypeId := match und t with
  | some (.slice e) => some e
  | _ => none
def byteSize (t : TypeId) : Option Nat := match Pg.info? t with
  | some i => some i.bytes
  | none => none

/-! results -/
def val : Option V → Option R
  | some v => some (.v v)
  | none => none
def heap (x : V) : Option Hp → Option R
  | some H => some (.h x H)
  | none => none

/-! operations that look at values alone -/
def pickB (a b : Option V) : Option Bool → Option R
  | some true => val a
  | some false => val b
  | none => none
def opPick (a b : Option V) : Option V → Option R
  | some c => pickB a b (asB c)
  | none => none
def placeOne (cs : Option (List V)) (off : Nat) : Nat → Option V → Option (List V)
  | n + 1, some v => match cs with
    | some cs => match Nat.beq v.cells.length (Nat.succ n) with
      | true => setCells cs off v.cells
      | false => none
    | none => none
  | _, _ => none
def placeF (fs : Array Field) (T : Tr V) : List (Nat × Operand) → Option (List V) → Option (List V)
  | [], cs => cs
  | (i, x) :: r, cs => match fs[i]? with
    | some f => match siz f.type with
      | some n => placeF fs T r (placeOne cs f.offset n (ev T x))
      | none => none
    | none => none
def placeE (size : Nat) (T : Tr V) : List (Nat × Operand) → Option (List V) → Option (List V)
  | [], cs => cs
  | (i, x) :: r, cs => placeE size T r (placeOne cs (i * size) size (ev T x))
def cells? : Option V → Option (List V)
  | some v => some v.cells
  | none => none
def opBuild (t : TypeId) (ps : Array (Nat × Operand)) (T : Tr V) : Option R := match und t with
  | some (.struct fs) => val (agg? (placeF fs T ps.toList (cells? (zeroV t))))
  | some (.array _ e) => match siz e with
    | some n => val (agg? (placeE n T ps.toList (cells? (zeroV t))))
    | none => none
  | _ => none
def opNil : Option V → Option R
  | some .np => none
  | some .nifc => none
  | some .nf => none
  | some .un => none
  | some (.md _ _) => none
  | some v => some (.v v)
  | none => none
def bool? : Option Bool → Option R
  | some x => some (.v (.b x))
  | none => none
def notB : Bool → Bool
  | true => false
  | false => true
def not? : Option Bool → Option Bool
  | some x => some (notB x)
  | none => none
def simpleKey (t : TypeId) : Bool := match und t with
  | some (.int _) => true
  | some .string => true
  | some .bool => true
  | _ => false
/-- a struct of scalars, one cell each -/
def flatF : List Field → Nat → Bool
  | [], _ => true
  | f :: r, i => both (both (Nat.beq f.offset i) (simpleKey f.type)) (both (notB (f.name == "_")) (flatF r (Nat.succ i)))
def eqFs : List Field → List V → List V → Option Bool
  | [], [], [] => some true
  | f :: r, x :: xs, y :: ys => match eqS1 (und f.type) x y with
    | some true => eqFs r xs ys
    | some false => some false
    | none => none
  | _, _, _ => none
def eqAg (fs : List Field) : V → V → Option Bool
  | .agg a, .agg c => eqFs fs a c
  | _, _ => none
def eqSr (t : TypeId) (fs : List Field) (x y : V) : Option Bool := match both (flatF fs 0) (notB (Pg.stoodInHeld t)) with
  | true => eqAg fs x y
  | false => none
/-- the elements of an array of a simple type -/
def eqEs (d : Option TypeDesc) : Nat → List V → List V → Option Bool
  | 0, [], [] => some true
  | n + 1, x :: xs, y :: ys => match eqS1 d x y with
    | some true => eqEs d n xs ys
    | some false => some false
    | none => none
  | _, _, _ => none
def oneN : Option Nat → Bool
  | some 1 => true
  | _ => false
def eqAr (n : Nat) (e : TypeId) : V → V → Option Bool
  | .agg a, .agg c => match both (simpleKey e) (oneN (siz e)) with
    | true => eqEs (und e) n a c
    | false => none
  | _, _ => none
/-- equality of keys -/
def eqKey (t : TypeId) (x y : V) : Option Bool := match und t with
  | some (.struct fs) => eqSr t fs.toList x y
  | some (.array n e) => eqAr n e x y
  | d => eqS1 d x y
def posN : Option Nat → Bool
  | some (_ + 1) => true
  | _ => false
def emptyA {α : Type} : Array α → Bool
  | ⟨[]⟩ => true
  | _ => false
def eqTy (t : TypeId) (x y : V) : Option Bool := match und t with
  | some (.struct fs) => eqSr t fs.toList x y
  | some (.array n e) => eqAr n e x y
  | some (.pointer e) => match posN (siz e) with
    | true => eqP x y
    | false => none
  | some (.slice _) => eqSl x y
  | some (.map _ _) => eqM x y
  | some (.func _ _ _) => eqFn x y
  | some (.interface ms) => eqIf (emptyA ms) x y
  | some .bool => eqBo x y
  | _ => none
def keyV (t : TypeId) : V → Bool
  | .i _ _ => simpleKey t
  | .s _ => simpleKey t
  | .b _ => simpleKey t
  | .agg l => match und t with
    | some (.struct fs) => both (flatF fs.toList 0) (Nat.ble fs.toList.length l.length)
    | some (.array n e) => both (both (simpleKey e) (oneN (siz e))) (Nat.ble n l.length)
    | _ => false
  | _ => false
def shN (k : IntKind) (c : Nat) : Nat := match Nat.ble c k.bits with
  | true => c
  | false => k.bits
def powN (n : Nat) : Int := .ofNat (Nat.pow 2 n)
def opInt (op : BinOp) (k : IntKind) (a : Int) (c : Int) : Option R := match op with
  | .add => some (.v (.i k (wrapI k (a + c))))
  | .sub => some (.v (.i k (wrapI k (a - c))))
  | .mul => some (.v (.i k (wrapI k (a * c))))
  | .quo => match eqI c 0 with
    | true => none
    | false => some (.v (.i k (wrapI k (a.tdiv c))))
  | .rem => match eqI c 0 with
    | true => none
    | false => some (.v (.i k (a.tmod c)))
  | .and => some (.v (.i k (k.wrap (BitVec.ofInt k.bits a &&& BitVec.ofInt k.bits c).toNat)))
  | .or => some (.v (.i k (k.wrap (BitVec.ofInt k.bits a ||| BitVec.ofInt k.bits c).toNat)))
  | .xor => some (.v (.i k (k.wrap (BitVec.ofInt k.bits a ^^^ BitVec.ofInt k.bits c).toNat)))
  | .eql => some (.v (.b (eqI a c)))
  | .neq => some (.v (.b (notB (eqI a c))))
  | .lss => some (.v (.b (ltI a c)))
  | .leq => some (.v (.b (notB (ltI c a))))
  | .gtr => some (.v (.b (ltI c a)))
  | .geq => some (.v (.b (notB (ltI a c))))
  | _ => none
def opShift (op : BinOp) (k : IntKind) (a : Int) : Int → Option R
  | .ofNat c => match op with
    | .shl => some (.v (.i k (wrapI k (a * powN (shN k c)))))
    | .shr => some (.v (.i k (a.fdiv (powN (shN k c)))))
    | _ => none
  | .negSucc _ => none
def opStr (op : BinOp) (a c : List Nat) : Option R := match op with
  | .add => match Nat.ble (a.length + c.length) 1048576 with
    | true => some (.v (.s (a ++ c)))
    | false => none
  | .eql => some (.v (.b (eqS a c)))
  | .neq => some (.v (.b (notB (eqS a c))))
  | .lss => some (.v (.b (ltS a c)))
  | .geq => some (.v (.b (notB (ltS a c))))
  | _ => none
def opEq (op : BinOp) (t : TypeId) (x y : V) : Option R := match op with
  | .eql => bool? (eqTy t x y)
  | .neq => bool? (not? (eqTy t x y))
  | _ => none
def isShift : BinOp → Bool
  | .shl => true
  | .shr => true
  | _ => false
def opInts (op : BinOp) (k : IntKind) (a : Int) (k' : IntKind) (c : Int) : Option R := match isShift op with
  | true => opShift op k a c
  | false => match eqK k k' with
    | true => opInt op k a c
    | false => none
def binSS (op : BinOp) (t : TypeId) (x y : V) : Option (List Nat) → Option (List Nat) → Option R
  | some a, some c => opStr op a c
  | _, _ => opEq op t x y
def binII (op : BinOp) (t : TypeId) (x y : V) : Option (IntKind × Int) → Option (IntKind × Int) → Option R
  | some (k, a), some (k', c) => opInts op k a k' c
  | _, _ => binSS op t x y (asS x) (asS y)
def opBin (op : BinOp) (t : TypeId) : Option V → Option V → Option R
  | some x, some y => binII op t x y (asI x) (asI y)
  | _, _ => none
def opUn (op : UnOp) (x : Option V) : Option R := match op, x with
  | .not, some (.b c) => some (.v (.b (notB c)))
  | .neg, some (.i k n) => some (.v (.i k (wrapI k (0 - n))))
  | _, _ => none
def opIfc (t : TypeId) (x : Option V) : Option R := match und t, x with
  | some (.interface _), _ => none
  | some _, some v => some (.v (.ifc t v))
  | _, _ => none
def opFn (f : Nat) : Option (List V) → Option R
  | some l => some (.v (.fn f l))
  | none => none
def opMakeFunc (fn : Fn) (first captured : Array Operand) (T : Tr V) : Option R := match fn, first with
  | .func f, ⟨[]⟩ => opFn f (evs T captured.toList)
  | _, _ => none
/-- a field: its offset and its size; a closed term, looked up once -/
def fieldOf (s : TypeId) (f : Nat) : Option Field := match und s with
  | some (.struct fs) => fs[f]?
  | _ => none
def fieldSz : Option Field → Option (Nat × Nat)
  | some f => match siz f.type with
    | some (n + 1) => some (f.offset, n + 1)
    | _ => none
  | none => none
def fieldNo (s : TypeId) (f : Nat) : Option (Nat × Nat) := fieldSz (fieldOf s f)
def fieldP (x o : Nat) : Option (Nat × Nat) → Option R
  | some (off, _) => some (.v (.p x (Nat.add o off)))
  | none => none
def fieldV (q : Option (Nat × Nat)) : Option (Nat × Nat) → Option R
  | some (x, o) => fieldP x o q
  | none => none
def opFieldAddr (s : TypeId) (f : Nat) : Option V → Option R
  | some v => fieldV (fieldNo s f) (asP v)
  | none => none
def part (l : List V) (o : Nat) (n : Option Nat) : Option Bool → Option V
  | some true => match n with
    | some n => agg? (sub l o n)
    | none => none
  | some false => nth l o
  | none => none
def opField (s : TypeId) (f : Nat) (x : Option V) : Option R := match und s, x with
  | some (.struct fs), some (.agg l) => match fs[f]? with
    | some f => val (part l f.offset (siz f.type) (isAgg f.type))
    | none => none
  | _, _ => none
def idxI : Option (IntKind × Int) → Option Nat
  | some (_, .ofNat n) => some n
  | _ => none
def idx : Option V → Option Nat
  | some v => idxI (asI v)
  | none => none
def addrAt (x o i n : Nat) : Option Nat → Option R
  | some e => match Nat.blt i n with
    | true => some (.v (.p x (o + i * e)))
    | false => none
  | none => none
def opIndexAddr (t : TypeId) (x : Option V) (i : Option Nat) : Option R := match i with
  | none => none
  | some i => match und t, x with
    | some (.array n e), some (.p x o) => addrAt x o i n (siz e)
    | some (.slice e), some (.sl x o n _ _) => addrAt x o i n (siz e)
    | _, _ => none
def byteAt : List Nat → Nat → Option V
  | [], _ => none
  | c :: _, 0 => some (.i .u8 (.ofNat c))
  | _ :: r, n + 1 => byteAt r n
def opIndex (t : TypeId) (x : Option V) (i : Option Nat) : Option R := match i with
  | none => none
  | some i => match und t, x with
    | some (.array n e), some (.agg l) => match Nat.blt i n, siz e with
      | true, some m => val (part l (i * m) (some m) (isAgg e))
      | _, _ => none
    | some .string, some (.s l) => val (byteAt l i)
    | _, _ => none
def opAssert (t : TypeId) (ok : Bool) (x : Option V) : Option R := match und t, x with
  | some (.interface _), _ => none
  | some _, some (.ifc t' v) => match Nat.beq t' t, ok with
    | true, true => some (.v (.tup [v, .b true]))
    | true, false => some (.v v)
    | false, _ => none
  | _, _ => none
def exTup (i : Nat) : Option (List V) → Option R
  | some l => val (nth l i)
  | none => none
def opExtract (i : Nat) : Option V → Option R
  | some v => exTup i (asTup v)
  | none => none

/-! slices -/
def bnd (d : Nat) : Option Operand → Tr V → Option Nat
  | none, _ => some d
  | some x, T => idx (ev T x)
def takeS : Nat → List Nat → List Nat
  | 0, _ => []
  | _ + 1, [] => []
  | n + 1, x :: r => x :: takeS n r
def dropS : Nat → List Nat → List Nat
  | 0, l => l
  | _ + 1, [] => []
  | n + 1, _ :: r => dropS n r
def sliceS (l : List Nat) : Option Nat → Option Nat → Option R
  | some lo, some hi => match Nat.ble lo hi, Nat.ble hi l.length with
    | true, true => some (.v (.s (takeS (hi - lo) (dropS lo l))))
    | _, _ => none
  | _, _ => none
def sliceN (v : V) : Option Nat → Option Nat → Option R
  | some 0, some 0 => some (.v v)
  | _, _ => none
/-- the bound of the capacity c -/
def bndM1 (c : Nat) : Option Nat → Option Nat
  | some m => match Nat.ble m c with
    | true => some m
    | false => none
  | none => none
def bndM (c : Nat) : Option Operand → Tr V → Option Nat
  | none, _ => some c
  | some x, T => bndM1 c (idx (ev T x))
/-- a slice whose capacity is known -/
def sliceK (x o esz : Nat) : Option Nat → Option Nat → Option Nat → Option R
  | some lo, some hi, some m => match Nat.ble lo hi, Nat.ble hi m with
    | true, true => match Nat.beq m lo with
      | true => some (.v (.sl x o (hi - lo) (Nat.succ (m - lo)) esz))
      | false => some (.v (.sl x (o + lo * esz) (hi - lo) (Nat.succ (m - lo)) esz))
    | _, _ => none
  | _, _, _ => none
/-- a slice whose capacity is not known -/
def sliceU (x o n esz : Nat) : Option Nat → Option Nat → Option R
  | some lo, some hi => match Nat.ble lo hi, Nat.ble hi n with
    | true, true => match Nat.beq lo n with
      | true => some (.v .se)
      | false => some (.v (.sl x (o + lo * esz) (hi - lo) 0 esz))
    | _, _ => none
  | _, _ => none
def opSliceP (t : TypeId) (x o : Nat) (lo hi mx : Option Operand) (T : Tr V) : Option R := match und t with
  | some (.array n e) => match siz e with
    | some esz => sliceK x o esz (bnd 0 lo T) (bnd n hi T) (bndM n mx T)
    | none => none
  | _ => none
def opSlice1 (t : TypeId) (x : Operand) (lo hi mx : Option Operand) (T : Tr V) : Option R := match ev T x with
  | some (.p x o) => opSliceP t x o lo hi mx T
  | some (.s l) => match und t, mx with
    | some .string, none => sliceS l (bnd 0 lo T) (bnd l.length hi T)
    | _, _ => none
  | some .nsl => match sliceElem t, mx with
    | some e, none => match siz e with
      | some _ => sliceN .nsl (bnd 0 lo T) (bnd 0 hi T)
      | none => none
    | _, _ => none
  | some .se => match sliceElem t, mx with
    | some e, none => match siz e with
      | some _ => sliceN .se (bnd 0 lo T) (bnd 0 hi T)
      | none => none
    | _, _ => none
  | some (.sl x o n 0 esz) => match sliceElem t, mx with
    | some e, none => match siz e with
      | some m => match Nat.beq m esz with
        | true => sliceU x o n esz (bnd 0 lo T) (bnd n hi T)
        | false => none
      | none => none
    | _, _ => none
  | some (.sl x o n (c + 1) esz) => match sliceElem t with
    | some e => match siz e with
      | some m => match Nat.beq m esz with
        | true => sliceK x o esz (bnd 0 lo T) (bnd n hi T) (bndM c mx T)
        | false => none
      | none => none
    | none => none
  | _ => none
def opSlice (t : TypeId) (x : Operand) (lo hi mx : Option Operand) (T : Tr V) : Option R := match hi, mx with
  | none, some _ => none
  | _, _ => opSlice1 t x lo hi mx T
def isSlT : Option TypeDesc → Nat → Option Nat
  | some (.slice _), n => some n
  | _, _ => none
def isMpT : Option TypeDesc → Option Nat
  | some (.map _ _) => some 0
  | _ => none
def isStT : Option TypeDesc → Nat → Option Nat
  | some .string, n => some n
  | _, _ => none
def lenV (t : TypeId) : V → Option Nat
  | .s l => isStT (und t) l.length
  | .nsl => isSlT (und t) 0
  | .nm => isMpT (und t)
  | .se => isSlT (und t) 0
  | .sl _ _ n _ _ => isSlT (und t) n
  | .p _ _ => match und t with
    | some (.pointer a) => match und a with
      | some (.array n _) => some n
      | _ => none
    | _ => none
  | .agg _ => match und t with
    | some (.array n _) => some n
    | _ => none
  | _ => none
def int? : Option Nat → Option R
  | some n => some (.v (.i .i64 (.ofNat n)))
  | none => none

/-! operations that read -/
def loadO (o : Nat) (n : Option Nat) (ag : Option Bool) : Option O → Option V
  | some (.c l _) => part l o n ag
  | some (.k l) => part l o n ag
  | _ => none
def loadP (t : TypeId) (H : Hp) : Option (Nat × Nat) → Option R
  | some (x, o) => val (loadO o (siz t) (isAgg t) (H.get x))
  | none => none
def opLoad (t : TypeId) (H : Hp) : Option V → Option R
  | some v => loadP t H (asP v)
  | none => none
def findE (kt : TypeId) (k : V) : List (V × V × Nat) → Nat → Option (Option (Nat × V))
  | [], _ => some none
  | (k', v, _) :: r, i => match eqKey kt k k' with
    | some true => some (some (i, v))
    | some false => findE kt k r (Nat.succ i)
    | none => none
def mapOf (H : Hp) : Option V → Option (List (V × V × Nat))
  | some .nm => some []
  | some (.m x) => match H.get x with
    | some (.m es _) => some es
    | _ => none
  | _ => none
def found (z : Option V) (ok : Bool) : Option (Option (Nat × V)) → Option R
  | some (some (_, v)) => match ok with
    | true => some (.v (.tup [v, .b true]))
    | false => some (.v v)
  | some none => match z, ok with
    | some z, true => some (.v (.tup [z, .b false]))
    | some z, false => some (.v z)
    | none, _ => none
  | none => none
def findIn (kt : TypeId) (es : Option (List (V × V × Nat))) (k : Option V) : Option (Option (Nat × V)) := match es, k with
  | some es, some k => findE kt k es 0
  | _, _ => none
def keyOk (t : TypeId) : Option V → Bool
  | some k => keyV t k
  | none => false
def opLookup (t : TypeId) (ok : Bool) (H : Hp) (x k : Option V) : Option R := match und t with
  | some (.map kt e) => match keyOk kt k with
    | true => found (zeroV e) ok (findIn kt (mapOf H x) k)
    | false => none
  | _ => none
def lenMap (H : Hp) (x : Nat) : Option Nat := match H.get x with
  | some (.m es _) => some es.length
  | _ => none
def opLen (t : TypeId) (H : Hp) : Option V → Option R
  | some (.m x) => match und t with
    | some (.map _ _) => int? (lenMap H x)
    | _ => none
  | some v => int? (lenV t v)
  | none => none
def byteCells : List V → Option (List Nat)
  | [] => some []
  | .i .u8 (.ofNat c) :: r => match byteCells r, Nat.blt c 256 with
    | some l, true => some (c :: l)
    | _, _ => none
  | _ => none
def str? : Option (List Nat) → Option R
  | some l => some (.v (.s l))
  | none => none
def bytesOf : Option (List V) → Option (List Nat)
  | some l => byteCells l
  | none => none
def subO (o n : Nat) : Option O → Option (List V)
  | some (.c l _) => sub l o n
  | some (.k l) => sub l o n
  | _ => none
def isBytes (t : TypeId) : Bool := match sliceElem t with
  | some e => match und e with
    | some (.int .u8) => true
    | _ => false
  | none => false
def opConvert (src dst : TypeId) (H : Hp) (x : Option V) : Option R := match und src, und dst, x with
  | some _, some (.int k), some (.i _ n) => some (.v (.i k (wrapI k n)))
  | some _, some .string, some (.s l) => some (.v (.s l))
  | some _, some .string, some .nsl => match isBytes src with
    | true => some (.v (.s []))
    | false => none
  | some _, some .string, some .se => match isBytes src with
    | true => some (.v (.s []))
    | false => none
  | some _, some .string, some (.sl x o n _ _) => match isBytes src with
    | true => str? (bytesOf (subO o n (H.get x)))
    | false => none
  | _, _, _ => none

/-! operations that make a block: its contents -/
def cellsO (e : TypeId) : Option (List V) → Option O
  | some l => some (.c l e)
  | none => none
def mkAlloc (e : TypeId) : Option O := cellsO e (cells? (zeroV e))
def mkBox (e : TypeId) (v : Option V) : Option O := cellsO e (cells? v)
def rep? (n : Nat) : Option (List V) → Option (List V)
  | some z => some (rep z n)
  | none => none
def mkSliceLit (e : TypeId) (n : Nat) (ps : Array (Nat × Operand)) (T : Tr V) : Option Nat → Option O
  | some size => cellsO e (placeE size T ps.toList (rep? n (cells? (zeroV e))))
  | none => none
/-- not too large a literal -/
def litSz (n : Nat) : Option Nat → Option Nat
  | some s => match Nat.ble (n * s) 16777216 with
    | true => some s
    | false => none
  | none => none
def newP (H : Hp) : Option O → Option R
  | some o => some (.h (.p H.nx 0) (H.new o))
  | none => none
def newS (H : Hp) (n c : Nat) (esz : Option Nat) (o : Option O) : Option R := match esz, o with
  | some esz, some o => some (.h (.sl H.nx 0 n (Nat.succ c) esz) (H.new o))
  | _, _ => none
def opBuildSlice (t : TypeId) (n : Nat) (ps : Array (Nat × Operand)) (T : Tr V) (H : Hp) : Option R := match sliceElem t with
  | some e => newS H n n (siz e) (mkSliceLit e n ps T (litSz n (siz e)))
  | none => none
def smallB : Option Nat → Bool
  | some n => Nat.ble n 1048576
  | none => false
def makeSl (e : TypeId) (H : Hp) : Option Nat → Option Nat → Option R
  | some l, some c => match Nat.ble l c, both (Nat.ble c 1048576) (smallB (byteSize e)) with
    | true, true => newS H l c (siz e) (cellsO e (rep? c (cells? (zeroV e))))
    | _, _ => none
  | _, _ => none
def opMakeSlice (t : TypeId) (H : Hp) (l c : Option Nat) : Option R := match sliceElem t with
  | some e => makeSl e H l c
  | none => none
def newM (H : Hp) : Option R := some (.h (.m H.nx) (H.new (.m [] 0)))

/-! operations that write -/
def cellsSet (e : Nat) : Option (List V) → Option O
  | some l => some (.c l e)
  | none => none
def setO (o : Nat) (vs : List V) : Option O → Option O
  | some (.c l e) => cellsSet e (setCells l o vs)
  | _ => none
def putO (H : Hp) (x : Nat) : Option O → Option Hp
  | some o => some (H.set x o)
  | none => none
def storeH (H : Hp) (x o : Nat) (vs : List V) : Option Hp := match okL vs with
  | true => putO H x (setO o vs (H.get x))
  | false => none
def storeB (H : Hp) (x o : Nat) (vs : List V) : Bool → Option R
  | true => heap undefV (storeH H x o vs)
  | false => none
def storeP (H : Hp) (n : Nat) (vs : List V) : Option (Nat × Nat) → Option R
  | some (x, o) => storeB H x o vs (Nat.beq vs.length n)
  | none => none
def opStore (H : Hp) (n : Option Nat) (a v : Option V) : Option R := match a, v, n with
  | some a, some v, some (n + 1) => storeP H (Nat.succ n) v.cells (asP a)
  | _, _, _ => none
def setE (k v : V) : List (V × V × Nat) → Nat → List (V × V × Nat)
  | [], _ => []
  | (_, _, c) :: r, 0 => (k, v, c) :: r
  | x :: r, n + 1 => x :: setE k v r n
def updE (H : Hp) (x : Nat) (k v : V) (es : List (V × V × Nat)) (c : Nat) : Option (Option (Nat × V)) → Option R
  | some (some (i, _)) => some (.h undefV (H.set x (.m (setE k v es i) c)))
  | some none => some (.h undefV (H.set x (.m (es ++ [(k, v, c)]) (Nat.succ c))))
  | none => none
def opUpdate (t : TypeId) (H : Hp) (m k v : Option V) : Option R := match und t with
  | some (.map kt _) => match keyOk kt k, m, k, v with
    | true, some (.m x), some k, some v => match H.get x with
      | some (.m es c) => updE H x k v es c (findE kt k es 0)
      | _ => none
    | _, _, _, _ => none
  | _ => none
def eraseE : List (V × V × Nat) → Nat → List (V × V × Nat)
  | [], _ => []
  | _ :: r, 0 => r
  | x :: r, n + 1 => x :: eraseE r n
def delE (H : Hp) (x : Nat) (es : List (V × V × Nat)) (c : Nat) : Option (Option (Nat × V)) → Option R
  | some (some (i, _)) => some (.h undefV (H.set x (.m (eraseE es i) c)))
  | some none => some (.v undefV)
  | none => none
def opDelete (t : TypeId) (H : Hp) (m k : V) : Option R := match und t with
  | some (.map kt _) => match keyV kt k, m with
    | true, .m x => match H.get x with
      | some (.m es c) => delE H x es c (findE kt k es 0)
      | _ => none
    | _, _ => none
  | _ => none
def opClear (t : TypeId) (H : Hp) : V → Option R
  | .nm => match und t with
    | some (.map _ _) => some (.v undefV)
    | _ => none
  | .m x => match und t, H.get x with
    | some (.map _ _), some (.m _ c) => some (.h undefV (H.set x (.m [] c)))
    | _, _ => none
  | .nsl => match und t with
    | some (.slice _) => some (.v undefV)
    | _ => none
  | .se => match und t with
    | some (.slice _) => some (.v undefV)
    | _ => none
  | .sl x o n _ _ => match sliceElem t with
    | some e => match rep? n (cells? (zeroV e)) with
      | some z => heap undefV (storeH H x o z)
      | none => none
    | none => none
  | _ => none
/-- the cells of what is appended or copied: n elements -/
def byteVs : List Nat → List V
  | [] => []
  | c :: r => .i .u8 (.ofNat c) :: byteVs r
def srcCells (size : Nat) (H : Hp) (n : Nat) : V → Option (List V)
  | .nsl => some []
  | .se => some []
  | .sl x o _ _ _ => subO o (n * size) (H.get x)
  | .s l => match Nat.beq size 1 with
    | true => takeN n (byteVs l)
    | false => none
  | _ => none
def lenS : V → Option Nat
  | .s l => some l.length
  | .nsl => some 0
  | .se => some 0
  | .sl _ _ n _ _ => some n
  | _ => none
def lenL : V → Option Nat
  | .nsl => some 0
  | .se => some 0
  | .sl _ _ n _ _ => some n
  | _ => none
def apNew (H : Hp) (e : Nat) (n size : Nat) (cs : List V) : Option R := some (.h (.sl H.nx 0 n 0 size) (H.new (.c cs e)))
def heap1 (v : V) : Option Hp → Option R
  | some H => some (.h v H)
  | none => none
/-- at a row whose capacity is not known -/
def apU (H : Hp) (x o len size n : Nat) (cs l : List V) (e elem : Nat) : Option R :=
  match Nat.ble (o + (len + n) * size) l.length with
  | true => heap1 (.sl x o (len + n) 0 size) (storeH H x (o + len * size) cs)
  | false => match Nat.beq o 0, Nat.beq (len * size) l.length, Nat.beq e elem with
    | true, true, true => apNew (H.set x .dead) elem (len + n) size (l ++ cs)
    | _, _, _ => none
def apK (H : Hp) (x o len c size n : Nat) (cs l : List V) (elem : Nat) : Option R :=
  match Nat.ble (len + n) c with
  | true => heap1 (.sl x o (len + n) (Nat.succ c) size) (storeH H x (o + len * size) cs)
  | false => match sub l o (len * size) with
    | some old => apNew H elem (len + n) size (old ++ cs)
    | none => none
def apS (H : Hp) (elem size n : Nat) (cs : List V) : V → Option R
  | .nsl => apNew H elem n size cs
  | .sl x o len cap esz => match Nat.beq esz size, H.get x with
    | true, some (.c l e) => match cap with
      | 0 => apU H x o len size n cs l e elem
      | c + 1 => apK H x o len c size n cs l elem
    | _, _ => none
  | _ => none
def small (len n bytes : Nat) : Bool := match Nat.ble (len + n) 1048576, Nat.ble bytes 1048576 with
  | true, true => true
  | _, _ => false
def apGo (H : Hp) (elem size bytes : Nat) (s x : V) : Nat → Nat → Option R
  | _, 0 => some (.v s)
  | len, n + 1 => match small len (Nat.succ n) bytes, size, srcCells size H (Nat.succ n) x with
    | true, m + 1, some cs => match okL cs with
      | true => apS H elem (Nat.succ m) (Nat.succ n) cs s
      | false => none
    | _, _, _ => none
def apLen (H : Hp) (elem size bytes : Nat) (s x : V) : Option Nat → Option Nat → Option R
  | some len, some n => apGo H elem size bytes s x len n
  | _, _ => none
def notInt : Option TypeDesc → Bool
  | some (.int _) => false
  | some _ => true
  | none => false
def opAppend (t tx : TypeId) (H : Hp) (s x : V) : Option R := match sliceElem t, both (Nat.blt t nT) (notInt (und tx)) with
  | some elem, true => match siz elem, byteSize elem with
    | some size, some bytes => apLen H elem size bytes s x (lenL s) (lenS x)
    | _, _ => none
  | _, _ => none
def isInt : Option TypeDesc → Bool
  | some (.int _) => true
  | _ => false
def apZk (H : Hp) (elem size n o len : Nat) (zs : Option (List V)) : Option O → Option R
  | some (.c l _) => match sub l o (len * size), zs with
    | some old, some zs => apNew H elem (len + n) size (old ++ zs)
    | _, _ => none
  | _ => none
/-- zeros are appended to a row that is full -/
def opAppendZ (t tx : TypeId) (H : Hp) (s x : V) : Option R := match sliceElem t, both (Nat.blt t nT) (isInt (und tx)) with
  | some elem, true => match siz elem, byteSize elem, s, x with
    | some (m + 1), some bytes, .sl y o len (c + 1) esz, .i .i64 (.ofNat (n + 1)) => match both (Nat.beq esz (Nat.succ m)) (both (small len (Nat.succ n) bytes) (Nat.blt c (len + Nat.succ n))) with
      | true => apZk H elem (Nat.succ m) (Nat.succ n) o len (rep? (Nat.succ n) (cells? (zeroV elem))) (H.get y)
      | false => none
    | _, _, _, _ => none
  | _, _ => none
def opApp (t tx : TypeId) (H : Hp) (s x : V) : Option R := match asI x with
  | some _ => opAppendZ t tx H s x
  | none => opAppend t tx H s x
def minN (a b : Nat) : Nat := match Nat.ble a b with
  | true => a
  | false => b
def cpTo (H : Hp) (n : Nat) (cs : Option (List V)) : V → Option R
  | .sl x o _ _ _ => match cs with
    | some cs => heap (.i .i64 (.ofNat n)) (storeH H x o cs)
    | none => none
  | _ => none
def cpGo (H : Hp) (size : Nat) (d x : V) : Nat → Option R
  | 0 => some (.v (.i .i64 0))
  | n + 1 => cpTo H (Nat.succ n) (srcCells size H (Nat.succ n) x) d
def opCopy (t : TypeId) (H : Hp) (d x : V) : Option R := match sliceElem t, lenL d, lenS x with
  | some e, some a, some b => match siz e with
    | some size => cpGo H size d x (minN b a)
    | none => none
  | _, _, _ => none
def maxI (a c : Int) : Int := match ltI a c with
  | true => c
  | false => a
def opMax : List V → Option R
  | [.i k a, .i _ c] => some (.v (.i k (maxI a c)))
  | [.i k a, .i _ c, .i _ d] => some (.v (.i k (maxI (maxI a c) d)))
  | _ => none
def opCap : V → Option R
  | .nsl => some (.v (.i .i64 0))
  | .sl _ _ _ (c + 1) _ => some (.v (.i .i64 (.ofNat c)))
  | _ => none
def opBuiltin (b : Builtin) (ts : List TypeId) (H : Hp) (args : List V) : Option R := match b, ts, args with
  | .len, t :: _, [x] => opLen t H (some x)
  | .append, t :: tx :: _, [s, x] => opApp t tx H s x
  | .copy, t :: _, [d, x] => opCopy t H d x
  | .delete, t :: _, [m, k] => opDelete t H m k
  | .clear, t :: _, [x] => opClear t H x
  | .max, _, l => opMax l
  | .cap, t :: _, [x] => match und t with
    | some (.slice _) => opCap x
    | _ => none
  | .recover, _, [] => some .recv
  | _, _, _ => none
def opYd (args : List V) : V → Option R
  | .yd x => some (.yield x args)
  | _ => none
/-- two rows in two blocks do not overlap -/
def ovO : Option O → Option O → Option R
  | some (.c _ _), some (.c (_ :: _) _) => some (.v (.b false))
  | _, _ => none
def ovR (H : Hp) : List V → Option R
  | [.sl x _ _ _ _, .sl y _ _ _ _] => match Nat.beq x y with
    | true => none
    | false => ovO (H.get x) (H.get y)
  | _ => none
def ovTo (H : Hp) (f : Nat) (args : List V) : Bool → Option R
  | true => ovR H args
  | false => some (.call f args)
def opFnv (H : Hp) (args : List V) (v : V) : Option (Nat × List V) → Option R
  | some (f, []) => ovTo H f args (Nat.beq f ovF)
  | some (f, c :: cap) => some (.call f (args ++ c :: cap))
  | none => opYd args v
def opTo (H : Hp) (args : List V) (v : V) : Option R := opFnv H args v (asFn v)
def opCall (c : Call) (T : Tr V) (H : Hp) : Option R := match evs T c.args.toList with
  | some args => match c.callee with
    | .builtin b => opBuiltin b c.argTypes.toList H args
    | .value f => match ev T f with
      | some v => opTo H args v
      | none => none
    | _ => none
  | none => none
def dfTo (args : List V) : V → Option R
  | .fn f cap => some (.dfr (.fn f (args ++ cap)))
  | _ => none
def opDefer (c : Call) (T : Tr V) : Option R := match evs T c.args.toList with
  | some args => match c.callee with
    | .value f => match ev T f with
      | some v => dfTo args v
      | none => none
    | _ => none
  | none => none
def opPanic : Option V → Option R
  | some (.ifc t v) => some (.pan (.ifc t v))
  | _ => none
/-- iterators -/
def opRange (t : TypeId) (H : Hp) (x : Option V) : Option R := match und t, x with
  | some .string, some (.s l) => some (.h (.p H.nx 0) (H.new (.si l 0)))
  | some (.map _ _), some .nm => some (.h (.p H.nx 0) (H.new (.mi none 0 [] 0)))
  | some (.map _ _), some (.m x) => match H.get x with
    | some (.m _ c) => some (.h (.p H.nx 0) (H.new (.mi (some x) c [] c)))
    | _ => none
  | _, _ => none
def nthS : List Nat → Nat → Option Nat
  | [], _ => none
  | c :: _, 0 => some c
  | _ :: r, n + 1 => nthS r n
def nextS (H : Hp) (x pos : Nat) (l : List Nat) : Option Nat → Option R
  | none => some (.v (.tup [.b false]))
  | some c => match Nat.blt c 128 with
    | true => some (.h (.tup [.b true, .i .i64 (.ofNat pos), .i .i32 (.ofNat c)]) (H.set x (.si l (Nat.succ pos))))
    | false => none
def hasN (n : Nat) : List Nat → Bool
  | [] => false
  | x :: r => match Nat.beq x n with
    | true => true
    | false => hasN n r
def leftE (seen : List Nat) : List (V × V × Nat) → List (V × V × Nat)
  | [] => []
  | (k, v, c) :: r => match hasN c seen with
    | true => leftE seen r
    | false => (k, v, c) :: leftE seen r
def allNew (last : Nat) : List (V × V × Nat) → Bool
  | [] => true
  | (_, _, c) :: r => match Nat.ble last c with
    | true => allNew last r
    | false => false
def nextE (H : Hp) (x m since : Nat) (seen : List Nat) (c : Nat) : List (V × V × Nat) → Option R
  | [] => some (.v (.tup [.b false]))
  | [(k, v, n)] => match Nat.blt n since with
    | true => some (.h (.tup [.b true, k, v]) (H.set x (.mi (some m) since (seen ++ [n]) c)))
    | false => none
  | _ => none
def nextM (H : Hp) (x m since : Nat) (seen : List Nat) (last : Nat) : Option O → Option R
  | some (.m es c) => match seen, es, allNew last es with
    | _ :: _, _ :: _, true => none
    | _, _, _ => nextE H x m since seen c (leftE seen es)
  | _ => none
def opNext (str : Bool) (H : Hp) : Option V → Option R
  | some (.p x 0) => match H.get x, str with
    | some (.si l pos), true => nextS H x pos l (nthS l pos)
    | some (.mi none _ _ _), false => some (.v (.tup [.b false]))
    | some (.mi (some m) since seen last), false => nextM H x m since seen last (H.get m)
    | _, _ => none
  | _ => none
def lastN : List Nat → Option Nat
  | [] => none
  | [n] => some n
  | _ :: r => lastN r
def bornE (n : Nat) : List (V × V × Nat) → Option R
  | [] => none
  | (k, v, c) :: r => match Nat.beq c n with
    | true => some (.v (.tup [k, v]))
    | false => bornE n r
def entryM (n stepped : Nat) : Option O → Option R
  | some (.m es c) => match Nat.beq c stepped with
    | true => bornE n es
    | false => none
  | _ => none
def opEntry (H : Hp) : Option V → Option R
  | some (.p x 0) => match H.get x with
    | some (.mi (some m) _ seen stepped) => match lastN seen with
      | some n => entryM n stepped (H.get m)
      | none => none
    | _ => none
  | _ => none

def opMakeMap : Option Operand → Hp → Option R
  | none, H => newM H
  | some _, _ => none
/-- one operation -/
def opF' : Op → Tr V → Hp → Option R
  | .move x => fun T _ => val (ev T x)
  | .assign x => fun T _ => val (ev T x)
  | .pick c a b => fun T _ => opPick (ev T a) (ev T b) (ev T c)
  | .alloc e => fun _ H => newP H (mkAlloc e)
  | .box e v => fun T H => newP H (mkBox e (ev T v))
  | .build t ps => fun T _ => opBuild t ps T
  | .buildSlice t n ps => fun T H => opBuildSlice t n ps T H
  | .load t a => fun T H => opLoad t H (ev T a)
  | .store t a v => fun T H => opStore H (siz t) (ev T a) (ev T v)
  | .nilCheck x => fun T _ => opNil (ev T x)
  | .binOp op t x y _ => fun T _ => opBin op t (ev T x) (ev T y)
  | .unOp op _ x => fun T _ => opUn op (ev T x)
  | .convert s d x => fun T H => opConvert s d H (ev T x)
  | .makeInterface t x => fun T _ => opIfc t (ev T x)
  | .makeFunc f a c => fun T _ => opMakeFunc f a c T
  | .makeMap _ r => fun _ H => opMakeMap r H
  | .makeSlice t l c => fun T H => opMakeSlice t H (idx (ev T l)) (idx (ev T c))
  | .slice t x lo hi mx => fun T _ => opSlice t x lo hi mx T
  | .fieldAddr s x f => fun T _ => opFieldAddr s f (ev T x)
  | .field s x f => fun T _ => opField s f (ev T x)
  | .indexAddr t x i => fun T _ => opIndexAddr t (ev T x) (idx (ev T i))
  | .index t x i => fun T _ => opIndex t (ev T x) (idx (ev T i))
  | .lookup t x k ok => fun T H => opLookup t ok H (ev T x) (ev T k)
  | .mapUpdate t m k v => fun T H => opUpdate t H (ev T m) (ev T k) (ev T v)
  | .range t x => fun T H => opRange t H (ev T x)
  | .next it str => fun T H => opNext str H (ev T it)
  | .entry it => fun T H => opEntry H (ev T it)
  | .typeAssert x _ t ok => fun T _ => opAssert t ok (ev T x)
  | .extract x i => fun T _ => opExtract i (ev T x)
  | .call c => fun T H => opCall c T H
  | .defer c => fun T _ => opDefer c T
  | .panic x => fun T _ => opPanic (ev T x)
  | _ => fun _ _ => none

noncomputable def opF (op : Op) : Tr V → Hp → Option R :=
 @Op.rec (fun _ => Tr V → Hp → Option R)
 (fun x T _ => val (ev T x))
 (fun x T _ => val (ev T x))
 (fun c a b T _ => opPick (ev T a) (ev T b) (ev T c))
 (fun e _ H => newP H (mkAlloc e))
 (fun e v T H => newP H (mkBox e (ev T v)))
 (fun t ps T _ => opBuild t ps T)
 (fun t n ps T H => opBuildSlice t n ps T H)
 (fun _ _ _ _ _ _ => none)
 (fun t a T H => opLoad t H (ev T a))
 (fun t a v T H => opStore H (siz t) (ev T a) (ev T v))
 (fun _ _ _ => none)
 (fun _ _ _ => none)
 (fun x T _ => opNil (ev T x))
 (fun op t x y _ T _ => opBin op t (ev T x) (ev T y))
 (fun op _ x T _ => opUn op (ev T x))
 (fun s d x T H => opConvert s d H (ev T x))
 (fun _ _ _ _ => none)
 (fun t x T _ => opIfc t (ev T x))
 (fun f a c T _ => opMakeFunc f a c T)
 (fun _ r _ H => opMakeMap r H)
 (fun _ _ _ _ => none)
 (fun t l c T H => opMakeSlice t H (idx (ev T l)) (idx (ev T c)))
 (fun t x lo hi mx T _ => opSlice t x lo hi mx T)
 (fun s x f T _ => opFieldAddr s f (ev T x))
 (fun s x f T _ => opField s f (ev T x))
 (fun t x i T _ => opIndexAddr t (ev T x) (idx (ev T i)))
 (fun t x i T _ => opIndex t (ev T x) (idx (ev T i)))
 (fun t x k ok T H => opLookup t ok H (ev T x) (ev T k))
 (fun t m k v T H => opUpdate t H (ev T m) (ev T k) (ev T v))
 (fun _ _ _ _ _ => none)
 (fun _ _ _ _ _ _ => none)
 (fun t x T H => opRange t H (ev T x))
 (fun it str T H => opNext str H (ev T it))
 (fun it T H => opEntry H (ev T it))
 (fun x _ t ok T _ => opAssert t ok (ev T x))
 (fun x i T _ => opExtract i (ev T x))
 (fun c T H => opCall c T H)
 (fun _ _ _ => none)
 (fun c T _ => opDefer c T)
 (fun x T _ => opPanic (ev T x))
 (fun _ _ _ _ => none)
 (fun _ _ _ _ _ => none)
 (fun _ _ _ _ => none)
 op

/-- is a guarded operation wanted; none: not known -/
def unB : Bool → Option Bool
  | true => none
  | false => some false
def isBB (want : Bool) (v : V) : Option Bool → Option Bool
  | some true => some want
  | some false => some (notB want)
  | none => unB (isUn v)
def isB (want : Bool) : Option V → Option Bool
  | some v => isBB want v (asB v)
  | none => some false
def wantT (T : Tr V) (want : Bool) : Option Oper → Option Bool
  | some { dst := some t, .. } => isB want (T.get t)
  | _ => some false
def wantedA (ops : Array Oper) (T : Tr V) : Option (Nat × Bool) → Option Bool
  | none => some true
  | some (j, want) => wantT T want ops[j]?

def put (nt : Nat) (T : Tr V) (v : V) : Option Nat → Option (Tr V)
  | some t => match Nat.blt t nt with
    | true => some (T.set v t)
    | false => none
  | none => some T

/-! calls -/
def argsT : List V → Nat → Tr V → Tr V
  | [], _, T => T
  | a :: r, n, T => argsT r (Nat.succ n) (T.set a n)
def loadOf (t : TypeId) (H : Hp) : Option V → Option V
  | some (.p x o) => loadO o (siz t) (isAgg t) (H.get x)
  | _ => none
def result (H : Hp) (T : Tr V) : ResultVar → Option V
  | .tmp t => some (getU (T.get t))
  | .cell a t => loadOf t H (T.get a)
def resultsA (H : Hp) (T : Tr V) : List ResultVar → Option (List V)
  | [] => some []
  | x :: r => cons? (result H T x) (resultsA H T r)
def retOf (R : Option V) (H : Hp) : Option (List V) → CRes
  | some [v] => .ok (.ret v) R H
  | some l => .ok (.ret (.tup l)) R H
  | none => .no

abbrev Ih := Code → Tr V → Fr → Hp → Res
/-- a call already known: function, arguments, heap -/
abbrev Memo := Nat → List V → Hp → CRes

/-- the end of an activation: deferred calls, then the results; pn: the panic under way -/
def leaveA (call : Nat → List V → Option V → Hp → CRes) (rs : List ResultVar) (T : Tr V) (R : Option V) : List Df → Option V → Hp → CRes
  | .coll x :: D, pn, H => match H.get x with
    | some .df => leaveA call rs T R D pn (H.set x .dead)
    | _ => .no
  | .fn f args :: D, pn, H => match call f args pn H with
    | .ok (.ret _) pn' H' => leaveA call rs T R D pn' H'
    | _ => .no
  | [], some v, H => .ok (.pan v) R H
  | [], none, H => retOf R H (resultsA H T rs)
def leaveR (call : Nat → List V → Option V → Hp → CRes) (rs : List ResultVar) : Res → CRes
  | .ok .normal T (.mk _ D R _) H => leaveA call rs T R D none H
  | .ok .ret T (.mk _ D R _) H => leaveA call rs T R D none H
  | .ok (.panic v) T (.mk _ D R _) H => leaveA call rs T R D (some v) H
  | _ => .no
def enter (ih : Ih) (call : Nat → List V → Option V → Hp → CRes) (args : List V) (R : Option V) (H : Hp) : Option Func → CRes
  | some fn => match fn.body with
    | some c => match Nat.ble args.length fn.ntmps with
      | true => leaveR call fn.results.toList (ih c (argsT args 0 .e) (.mk fn.ntmps [] R none) H)
      | false => .no
    | none => .no
  | none => .no
/-- a call that defers nothing may call again: deferred calls go one level down -/
def call0 (ih : Ih) (f : Nat) (args : List V) (R : Option V) (H : Hp) : CRes :=
  enter ih (fun _ _ _ _ => .no) args R H Pg.funcs[f]?
def callF (M : Memo) (ih : Ih) (f : Nat) (args : List V) (R : Option V) (H : Hp) : CRes := match M f args H with
  | .ok e _ H' => .ok e R H'
  | .no => enter ih (call0 ih) args R H Pg.funcs[f]?

def setParams : List Nat → List V → Nat → Tr V → Option (Tr V)
  | [], [], _, T => some T
  | t :: ts, v :: vs, nt, T => match Nat.blt t nt with
    | true => setParams ts vs nt (T.set v t)
    | false => none
  | _, _, _, _ => none
def endRound (l : Nat) (H : Hp) (x : X) : Option O → CRes
  | some (.lp _ _ nt T ps a b d) => match x with
    | .normal => .ok (.ret (.b true)) none (H.set l (.lp .ready none nt T ps a b d))
    | .ret => .ok (.ret (.b false)) none (H.set l (.lp .done (some .ret) nt T ps a b d))
    | .exit j => .ok (.ret (.b false)) none (H.set l (.lp .done (some (.exit j)) nt T ps a b d))
    | .panic v => .ok (.pan v) none H
  | _ => .no
def roundEnd (l : Nat) : Res → CRes
  | .ok x _ (.mk _ [] _ _) H => endRound l H x (H.get l)
  | _ => .no
def beginR (ih : Ih) (l : Nat) (body : Code) (T : Tr V) (F : Fr) (H : Hp) : Option O → CRes
  | some (.lp .ready pend nt T' ps a b d) => roundEnd l (ih body T F (H.set l (.lp .busy pend nt T' ps a b d)))
  | _ => .no
def roundBody (ih : Ih) (l : Nat) (body : Code) : Res → CRes
  | .ok .normal T F H => beginR ih l body T F H (H.get l)
  | _ => .no
def round1 (ih : Ih) (l : Nat) (nt : Nat) (assign body : Code) (H : Hp) : Option (Tr V) → CRes
  | some T => roundBody ih l body (ih assign T (.mk nt [] none (some l)) H)
  | none => .no
def yieldO (ih : Ih) (l : Nat) (args : List V) (H : Hp) : Option O → CRes
  | some (.lp _ _ nt T params assign body _) => round1 ih l nt assign body H (setParams params args nt T)
  | _ => .no
def yieldF (ih : Ih) (l : Nat) (args : List V) (H : Hp) : CRes := yieldO ih l args H (H.get l)

/-! statements -/
def goOn (K : Tr V → Fr → Hp → Res) (F : Fr) (H : Hp) : Option (Tr V) → Res
  | some T => K T F H
  | none => .no
def putF (K : Tr V → Fr → Hp → Res) (T : Tr V) (d : Option Nat) (v : V) (H : Hp) : Fr → Res
  | .mk nt D R rd => goOn K (.mk nt D R rd) H (put nt T v d)
def called (K : Tr V → Fr → Hp → Res) (T : Tr V) (d : Option Nat) (F : Fr) : CRes → Res
  | .ok (.ret v) _ H => putF K T d v H F
  | .ok (.pan v) _ H => .ok (.panic v) T F H
  | .no => .no
def recvF (K : Tr V → Fr → Hp → Res) (T : Tr V) (d : Option Nat) (H : Hp) : Fr → Res
  | .mk nt D (some v) none => goOn K (.mk nt D none none) H (put nt T v d)
  | .mk nt D none none => goOn K (.mk nt D none none) H (put nt T .nifc d)
  | _ => .no
def dferF (K : Tr V → Fr → Hp → Res) (T : Tr V) (d : Option Nat) (x : Df) (H : Hp) : Fr → Res
  | .mk nt D R none => goOn K (.mk nt (x :: D) R none) H (put nt T undefV d)
  | _ => .no
def stepR (M : Memo) (ih : Ih) (d : Option Nat) (K : Tr V → Fr → Hp → Res) (T : Tr V) (F : Fr) (H : Hp) : Option R → Res
  | some (.v v) => putF K T d v H F
  | some (.h v H) => putF K T d v H F
  | some (.call f args) => called K T d F (callF M ih f args none H)
  | some (.yield l args) => called K T d F (yieldF ih l args H)
  | some (.dfr x) => dferF K T d x H F
  | some .recv => recvF K T d H F
  | some (.pan v) => .ok (.panic v) T F H
  | none => .no
def step1 (M : Memo) (ih : Ih) (o : Oper) (K : Tr V → Fr → Hp → Res) (T : Tr V) (F : Fr) (H : Hp) : Option Bool → Res
  | some true => stepR M ih o.dst K T F H (opF o.op T H)
  | some false => putF K T o.dst undefV H F
  | none => .no
def opsA (M : Memo) (ih : Ih) (ops : Array Oper) : List Oper → Tr V → Fr → Hp → Res
  | [], T, F, H => .ok .normal T F H
  | o :: r, T, F, H => step1 M ih o (opsA M ih ops r) T F H (wantedA ops T o.guard)
/-! regions whose order is drawn -/
inductive Kd where
  | pure | rd | al | wr
def kd : Op → Kd
  | .load .. => .rd
  | .lookup .. => .rd
  | .convert .. => .rd
  | .alloc .. => .al
  | .box .. => .al
  | .buildSlice .. => .al
  | .store .. => .wr
  | .mapUpdate .. => .wr
  | .call c => match c.callee with
    | .builtin .len => .rd
    | .builtin .max => .pure
    | _ => .wr
  | .move .. => .pure
  | .assign .. => .pure
  | .pick .. => .pure
  | .build .. => .pure
  | .nilCheck .. => .pure
  | .binOp .. => .pure
  | .unOp .. => .pure
  | .makeInterface .. => .pure
  | .makeFunc .. => .pure
  | .slice .. => .pure
  | .fieldAddr .. => .pure
  | .field .. => .pure
  | .indexAddr .. => .pure
  | .index .. => .pure
  | .extract .. => .pure
  | _ => .wr
def isWr : Kd → Bool
  | .wr => true
  | _ => false
def anyL {α : Type} (p : α → Bool) : List α → Bool
  | [] => false
  | x :: r => match p x with
    | true => true
    | false => anyL p r
def allL {α : Type} (p : α → Bool) : List α → Bool
  | [] => true
  | x :: r => match p x with
    | true => allL p r
    | false => false
def nthO : List Oper → Nat → Option Oper
  | [], _ => none
  | o :: _, 0 => some o
  | _ :: r, n + 1 => nthO r n
/-- the operations that must come ahead of this one, by its own edges -/
def edges : List Edge → List Nat
  | [] => []
  | e :: r => match Region.binds .any e with
    | true => e.on :: edges r
    | false => edges r
def preds (ops : List Oper) (i : Nat) : List Nat := match nthO ops i with
  | some o => edges o.after.toList
  | none => []
/-- j comes ahead of i in every order -/
def ahead (ops : List Oper) : Nat → Nat → Nat → Bool
  | 0, _, _ => false
  | f + 1, i, j => anyL (fun k => match Nat.beq k j with
    | true => true
    | false => ahead ops f k j) (preds ops i)
def upTo : Nat → List Nat
  | 0 => []
  | n + 1 => upTo n ++ [n]
def wrAt (ops : List Oper) (i : Nat) : Bool := match nthO ops i with
  | some o => isWr (kd o.op)
  | none => false
def filterL (p : Nat → Bool) : List Nat → List Nat
  | [] => []
  | x :: r => match p x with
    | true => x :: filterL p r
    | false => filterL p r
/-- the order of the run: ahead of each writer what must come ahead of it, then all the rest -/
def addNew (l : List Nat) : List Nat → List Nat
  | [] => l
  | x :: r => match hasN x l with
    | true => addNew l r
    | false => addNew (l ++ [x]) r
def lazyGo (ops : List Oper) (n : Nat) : List Nat → List Nat → List Nat
  | [], l => l
  | w :: ws, l => lazyGo ops n ws (addNew (addNew l (filterL (ahead ops n w) (upTo n))) [w])
def lazy (ops : List Oper) (n : Nat) : List Nat :=
  addNew (lazyGo ops n (filterL (wrAt ops) (upTo n)) []) (upTo n)
inductive Ent where
  | mk (i w : Nat) (k : Kd) (o : Oper)
/-- how many of the last writers need not come ahead -/
def loose (ops : List Oper) (n i : Nat) : List Nat → Nat
  | [] => 0
  | w :: ws => match ahead ops n i w with
    | true => 0
    | false => Nat.succ (loose ops n i ws)
/-- w: how many of the last writers need not come ahead of it -/
def ent (ops : List Oper) (n i : Nat) (ws : List Nat) : Option Ent := match nthO ops i with
  | some o => some (.mk i (loose ops n i ws) (kd o.op) o)
  | none => none
def consE : Option Ent → Option (List Ent) → Option (List Ent)
  | some x, some r => some (x :: r)
  | _, _ => none
def nextW (ops : List Oper) (i : Nat) (ws : List Nat) : List Nat := match wrAt ops i with
  | true => i :: ws
  | false => ws
def entL (ops : List Oper) (n : Nat) : List Nat → List Nat → Option (List Ent)
  | [], _ => some []
  | i :: r, ws => consE (ent ops n i ws) (entL ops n r (nextW ops i ws))
/-- the temporaries that an operation looks at -/
def tmpsOf : List Operand → List Nat
  | [] => []
  | .tmp t :: r => t :: tmpsOf r
  | _ :: r => tmpsOf r
def guardT (ops : List Oper) : Option (Nat × Bool) → List Nat
  | none => []
  | some (j, _) => match nthO ops j with
    | some { dst := some t, .. } => [t]
    | _ => []
def reads (ops : List Oper) (o : Oper) : List Nat := tmpsOf o.op.operands.toList ++ guardT ops o.guard
def clash (ops : List Oper) (a b : Oper) : Bool := match a.dst with
  | none => false
  | some t => match hasN t (reads ops b), b.dst with
    | true, _ => true
    | false, some u => Nat.beq t u
    | false, none => false
def ordered (ops : List Oper) (n i j : Nat) : Bool := match ahead ops n i j with
  | true => true
  | false => ahead ops n j i
def apartOk (ops : List Oper) (n i j : Nat) : Bool := match Nat.beq i j, nthO ops i, nthO ops j with
  | true, _, _ => true
  | false, some a, some b => match clash ops a b with
    | true => ordered ops n i j
    | false => true
  | _, _, _ => false
/-- each operation's edges lie ahead of it in the list -/
def extOk (ops : List Oper) : List Nat → List Nat → Bool
  | [], _ => true
  | i :: r, done => match allL (fun j => hasN j done) (preds ops i) with
    | true => extOk ops r (i :: done)
    | false => false
/-- all that lies ahead of a writer in the list must come ahead of it -/
def lazyOk (ops : List Oper) (n : Nat) : List Nat → List Nat → Bool
  | [], _ => true
  | i :: r, done => match wrAt ops i with
    | false => lazyOk ops n r (i :: done)
    | true => match allL (fun j => ahead ops n i j) done with
      | true => lazyOk ops n r (i :: done)
      | false => false
def nodupN : List Nat → Bool
  | [] => true
  | x :: r => match hasN x r with
    | true => false
    | false => nodupN r
def dstL : List Oper → List Nat
  | [] => []
  | o :: r => match o.dst with
    | some t => t :: dstL r
    | none => dstL r
def planOk (ops : List Oper) (n : Nat) (l : List Nat) : Bool :=
  both (both (both (nodupN (dstL ops)) (allL (fun i => hasN i l) (upTo n))) (both (allL (fun i => Nat.blt i n) l) (nodupN l)))
    (both (both (extOk ops l []) (lazyOk ops n l [])) (allL (fun i => allL (fun j => apartOk ops n i j) (upTo n)) (upTo n)))
def plan1 (ops : List Oper) (n : Nat) (l : List Nat) : Bool → Option (List Ent)
  | true => entL ops n l []
  | false => none
def plan0 (ops : List Oper) (n : Nat) (l : List Nat) : Option (List Ent) := plan1 ops n l (planOk ops n l)
def plan (ops : List Oper) : Option (List Ent) := plan0 ops ops.length (lazy ops ops.length)


mutual
def sameV : V → V → Bool
  | .b x, y => match y with
    | .b y => x == y
    | _ => false
  | .i k n, y => match y with
    | .i k' n' => both (eqK k k') (eqI n n')
    | _ => false
  | .s l, y => match y with
    | .s l' => eqS l l'
    | _ => false
  | .np, y => match y with
    | .np => true
    | _ => false
  | .p x o, y => match y with
    | .p x' o' => both (Nat.beq x x') (Nat.beq o o')
    | _ => false
  | .nsl, y => match y with
    | .nsl => true
    | _ => false
  | .se, y => match y with
    | .se => true
    | _ => false
  | .sl x o n c e, y => match y with
    | .sl x' o' n' c' e' => both (both (Nat.beq x x') (Nat.beq o o')) (both (Nat.beq n n') (both (Nat.beq c c') (Nat.beq e e')))
    | _ => false
  | .nm, y => match y with
    | .nm => true
    | _ => false
  | .m x, y => match y with
    | .m x' => Nat.beq x x'
    | _ => false
  | .fn f c, y => match y with
    | .fn f' c' => both (Nat.beq f f') (sameL c c')
    | _ => false
  | .yd x, y => match y with
    | .yd x' => Nat.beq x x'
    | _ => false
  | .nf, y => match y with
    | .nf => true
    | _ => false
  | .ifc t v, y => match y with
    | .ifc t' v' => both (Nat.beq t t') (sameV v v')
    | _ => false
  | .nifc, y => match y with
    | .nifc => true
    | _ => false
  | .agg l, y => match y with
    | .agg l' => sameL l l'
    | _ => false
  | .tup l, y => match y with
    | .tup l' => sameL l l'
    | _ => false
  | .un, y => match y with
    | .un => true
    | _ => false
  | .md m r, y => match y with
    | .md m' r' => both (Nat.beq m m') (Nat.beq r r')
    | _ => false
def sameL : List V → List V → Bool
  | [], y => match y with
    | [] => true
    | _ => false
  | x :: r, y => match y with
    | x' :: r' => both (sameV x x') (sameL r r')
    | [] => false
end
def sameR (v : V) : Option R → Bool
  | some (.v v') => sameV v v'
  | _ => false
/-- the read gives the same in the n newest of the earlier heaps -/
def sameIn (op : Op) (T : Tr V) (v : V) : Nat → List Hp → Bool
  | 0, _ => true
  | _ + 1, [] => true
  | n + 1, H :: hs => match sameR v (opF op T H) with
    | true => sameIn op T v n hs
    | false => false
/-- what an operation makes: the block, and the value for its number -/
inductive Mk where
  | no
  | p (o : O)
  | sl (n esz : Nat) (o : O)
def mkP : Option O → Mk
  | some o => .p o
  | none => .no
def mkSl (n : Nat) (esz : Option Nat) (o : Option O) : Mk := match esz, o with
  | some e, some o => .sl n e o
  | _, _ => .no
def mkOf (op : Op) (T : Tr V) : Mk := match op with
  | .alloc e => mkP (mkAlloc e)
  | .box e v => mkP (mkBox e (ev T v))
  | .buildSlice t n ps => match sliceElem t with
    | some e => mkSl n (siz e) (mkSliceLit e n ps T (litSz n (siz e)))
    | none => .no
  | _ => .no
/-- the state of the run: the writers so far, the heaps behind the earlier ones (the newest first), the heap behind the last one -/
abbrev Kc := Nat → List Hp → Hp → Tr V → Fr → Hp → Res
def kPut (K : Kc) (c : Nat) (hs : List Hp) (Hs : Hp) (F : Fr) (H : Hp) : Option (Tr V) → Res
  | some T => K c hs Hs T F H
  | none => .no
def kF (K : Kc) (c : Nat) (hs : List Hp) (Hs : Hp) (T : Tr V) (d : Option Nat) (v : V) (H : Hp) : Fr → Res
  | .mk nt D R rd => kPut K c hs Hs (.mk nt D R rd) H (put nt T v d)
def kPure (K : Kc) (c : Nat) (hs : List Hp) (Hs : Hp) (T : Tr V) (F : Fr) (H : Hp) (d : Option Nat) : Option R → Res
  | some (.v v) => kF K c hs Hs T d v H F
  | _ => .no
def kRd1 (K : Kc) (c : Nat) (hs : List Hp) (Hs : Hp) (T : Tr V) (F : Fr) (H : Hp) (d : Option Nat) (v : V) : Bool → Res
  | true => kF K c hs Hs T d v H F
  | false => .no
def kRd (K : Kc) (c : Nat) (hs : List Hp) (Hs : Hp) (T : Tr V) (F : Fr) (H : Hp) (d : Option Nat) (w : Nat) (op : Op) : Option R → Res
  | some (.v v) => kRd1 K c hs Hs T F H d v (sameIn op T v w hs)
  | _ => .no
def kAl (K : Kc) (c : Nat) (hs : List Hp) (Hs : Hp) (T : Tr V) (F : Fr) (H : Hp) (d : Option Nat) (x : Nat) : Mk → Res
  | .no => .no
  | .p o => kF K c hs Hs T d (.p x 0) (H.set x o) F
  | .sl n e o => kF K c hs Hs T d (.sl x 0 n (Nat.succ n) e) (H.set x o) F
def kWr (K : Kc) (c : Nat) (hs : List Hp) (Hs : Hp) (T : Tr V) (F : Fr) (d : Option Nat) (v : V) (H : Hp) : Res :=
  kF K (Nat.succ c) (Hs :: hs) H T d v H F
/-- nothing is known of what the operations have set -/
def blur (nt : Nat) : List Oper → Option (Tr V) → Option (Tr V)
  | [], T => T
  | o :: r, some T => blur nt r (put nt T .un o.dst)
  | _ :: _, none => none
def panD (v : V) (F : Fr) (H : Hp) : Option (Tr V) → Res
  | some T => .ok (.panic v) T F H
  | none => .no
def panF (ops : List Oper) (T : Tr V) (v : V) (H : Hp) : Fr → Res
  | .mk nt D R rd => panD v (.mk nt D R rd) H (blur nt ops (some T))
def laterE (ops : List Oper) (n i : Nat) : Ent → Bool
  | .mk j _ _ _ => ahead ops n j i
/-- what need not come behind the writer -/
def early (ops : List Oper) (n i : Nat) : List Ent → List Ent
  | [] => []
  | e :: r => match laterE ops n i e with
    | true => early ops n i r
    | false => e :: early ops n i r
def nwKd (nx0 i w : Nat) (o : Oper) (K : Kc) (c : Nat) (hs : List Hp) (Hs : Hp) (T : Tr V) (F : Fr) (H : Hp) : Kd → Res
  | .pure => kPure K c hs Hs T F H o.dst (opF o.op T H)
  | .rd => kRd K c hs Hs T F H o.dst w o.op (opF o.op T H)
  | .al => kAl K c hs Hs T F H o.dst (Nat.add nx0 i) (mkOf o.op T)
  | .wr => .no
def nwB (K : Kc) (c : Nat) (hs : List Hp) (Hs : Hp) (T : Tr V) (F : Fr) (H : Hp) (d : Option Nat) : Kd → Res
  | .wr => .no
  | _ => kF K c hs Hs T d undefV H F
def nwW (nx0 i w : Nat) (k : Kd) (o : Oper) (K : Kc) (c : Nat) (hs : List Hp) (Hs : Hp) (T : Tr V) (F : Fr) (H : Hp) : Option Bool → Res
  | some true => nwKd nx0 i w o K c hs Hs T F H k
  | some false => nwB K c hs Hs T F H o.dst k
  | none => .no
/-- operations that do not write -/
def nwGo (ops : Array Oper) (nx0 : Nat) : List Ent → Kc
  | [], _, _, _, T, F, H => .ok .normal T F H
  | .mk i w k o :: r, c, hs, Hs, T, F, H => nwW nx0 i w k o (nwGo ops nx0 r) c hs Hs T F H (wantedA ops T o.guard)
/-- a panic: what may come ahead of it must not go wrong -/
def kPan (ops : List Oper) (T : Tr V) (v : V) (H : Hp) (F : Fr) : Res → Res
  | .ok .normal _ _ _ => panF ops T v H F
  | _ => .no
def kCall (nx0 i : Nat) (rs : List Ent) (ops : List Oper) (K : Kc) (c : Nat) (hs : List Hp) (Hs : Hp) (T : Tr V) (F : Fr) (H0 : Hp) (d : Option Nat) : CRes → Res
  | .ok (.ret v) _ H => kWr K c hs Hs T F d v H
  | .ok (.pan v) _ H => kPan ops T v H F (nwGo ⟨ops⟩ nx0 (early ops ops.length i rs) c hs Hs T F H0)
  | .no => .no
def kOp (M : Memo) (ih : Ih) (nx0 i : Nat) (rs : List Ent) (ops : List Oper) (K : Kc) (c : Nat) (hs : List Hp) (Hs : Hp) (T : Tr V) (F : Fr) (H : Hp) (d : Option Nat) : Option R → Res
  | some (.v v) => kWr K c hs Hs T F d v H
  | some (.h v H) => kWr K c hs Hs T F d v H
  | some (.call f args) => kCall nx0 i rs ops K c hs Hs T F H d (callF M ih f args none H)
  | some (.yield l args) => kCall nx0 i rs ops K c hs Hs T F H d (yieldF ih l args H)
  | _ => .no
def kKd (M : Memo) (ih : Ih) (rs : List Ent) (ops : List Oper) (nx0 i w : Nat) (o : Oper) (K : Kc) (c : Nat) (hs : List Hp) (Hs : Hp) (T : Tr V) (F : Fr) (H : Hp) : Kd → Res
  | .pure => kPure K c hs Hs T F H o.dst (opF o.op T H)
  | .rd => kRd K c hs Hs T F H o.dst w o.op (opF o.op T H)
  | .al => kAl K c hs Hs T F H o.dst (Nat.add nx0 i) (mkOf o.op T)
  | .wr => kOp M ih nx0 i rs ops K c hs Hs T F H o.dst (opF o.op T H)
def isWrB (K : Kc) (c : Nat) (hs : List Hp) (Hs : Hp) (T : Tr V) (F : Fr) (H : Hp) (d : Option Nat) : Kd → Res
  | .wr => kWr K c hs Hs T F d undefV H
  | _ => kF K c hs Hs T d undefV H F
def kW (M : Memo) (ih : Ih) (rs : List Ent) (ops : List Oper) (nx0 i w : Nat) (k : Kd) (o : Oper) (K : Kc) (c : Nat) (hs : List Hp) (Hs : Hp) (T : Tr V) (F : Fr) (H : Hp) : Option Bool → Res
  | some true => kKd M ih rs ops nx0 i w o K c hs Hs T F H k
  | some false => isWrB K c hs Hs T F H o.dst k
  | none => .no
def drawGo (M : Memo) (ih : Ih) (ops : Array Oper) (nx0 : Nat) : List Ent → Kc
  | [], _, _, _, T, F, H => .ok .normal T F H
  | .mk i w k o :: r, c, hs, Hs, T, F, H => kW M ih r ops.toList nx0 i w k o (drawGo M ih ops nx0 r) c hs Hs T F H (wantedA ops T o.guard)
def reserve (n : Nat) : Hp → Hp
  | .mk nx t => .mk (Nat.add nx n) t
def drawL (M : Memo) (ih : Ih) (ops : Array Oper) (nx0 : Nat) (T : Tr V) (F : Fr) (H : Hp) : Option (List Ent) → Res
  | some l => drawGo M ih ops nx0 l 0 [] H T F H
  | none => .no
def drawA (M : Memo) (ih : Ih) (ops : Array Oper) (T : Tr V) (F : Fr) (H : Hp) : Res :=
  drawL M ih ops H.nx T F (reserve ops.toList.length H) (plan ops.toList)
def regionA (M : Memo) (ih : Ih) (ops : Array Oper) (T : Tr V) (F : Fr) (H : Hp) : Bool → Res
  | false => opsA M ih ops ops.toList T F H
  | true => drawA M ih ops T F H
def thenA (ih : Ih) (b : Code) : Res → Res
  | .ok .normal T F H => ih b T F H
  | r => r
def condB (ih : Ih) (a b : Code) (T : Tr V) (F : Fr) (H : Hp) : Option Bool → Res
  | some true => ih a T F H
  | some false => ih b T F H
  | none => .no
def condA (ih : Ih) (a b : Code) (T : Tr V) (F : Fr) (H : Hp) : Option V → Res
  | some c => condB ih a b T F H (asB c)
  | none => .no
def catchA (_ : Nat) (T : Tr V) (F : Fr) (H : Hp) (j : Nat) : Bool → Res
  | true => .ok .normal T F H
  | false => .ok (.exit j) T F H
def blockA (id : Nat) : Res → Res
  | .ok (.exit j) T F H => catchA id T F H j (Nat.beq j id)
  | r => r
def jumpA (ih : Ih) (T : Tr V) (F : Fr) (H : Hp) : Option Code → Res
  | none => .ok .normal T F H
  | some c => ih c T F H
def endLoop (ih : Ih) (l : Nat) (T : Tr V) (F : Fr) (H : Hp) : Option O → Res
  | some (.lp .busy _ _ _ _ _ _ _) => .no
  | some (.lp _ pend nt T' ps a b d) => jumpA ih T F (H.set l (.lp .exhausted pend nt T' ps a b d)) pend
  | _ => .no
def ranged (ih : Ih) (l : Nat) (T : Tr V) (F : Fr) : CRes → Res
  | .ok (.ret _) _ H => endLoop ih l T F H (H.get l)
  | .ok (.pan v) _ H => .ok (.panic v) T F H
  | .no => .no
def rangeIn (M : Memo) (ih : Ih) (f : Nat) (cap : List V) (params : Array Tmp) (assign body : Code) (T : Tr V) (nt : Nat) (F : Fr) (H : Hp) (d : Nat) : Res :=
  ranged ih H.nx T F (callF M ih f (.yd H.nx :: cap) none (H.new (.lp .ready none nt T params.toList assign body d)))
def defersOf : Option O → Option Nat
  | some (.lp _ _ _ _ _ _ _ d) => some d
  | _ => none
def rangeR (M : Memo) (ih : Ih) (f : Nat) (cap : List V) (params : Array Tmp) (assign body : Code) (T : Tr V) (nt : Nat) (F : Fr) (H : Hp) : Option Nat → Res
  | some d => rangeIn M ih f cap params assign body T nt F H d
  | none => .no
def rangeF (M : Memo) (ih : Ih) (f : Nat) (cap : List V) (params : Array Tmp) (assign body : Code) (T : Tr V) (H : Hp) : Fr → Res
  | .mk nt D R none => rangeIn M ih f cap params assign body T nt (.mk nt (.coll H.nx :: D) R none) (H.new .df) H.nx
  | .mk nt D R (some l) => rangeR M ih f cap params assign body T nt (.mk nt D R (some l)) H (defersOf (H.get l))
def rangeV (M : Memo) (ih : Ih) (params : Array Tmp) (assign body : Code) (T : Tr V) (F : Fr) (H : Hp) : Option V → Res
  | some (.fn f cap) => rangeF M ih f cap params assign body T H F
  | _ => .no
def execF' (M : Memo) : Code → Ih → Tr V → Fr → Hp → Res
  | .skip => fun _ T F H => .ok .normal T F H
  | .region _ ops d => fun ih T F H => regionA M ih ops T F H d
  | .seq a b => fun ih T F H => thenA ih b (ih a T F H)
  | .cond c a b => fun ih T F H => condA ih a b T F H (ev T c)
  | .block id c => fun ih T F H => blockA id (ih c T F H)
  | .loop c => fun ih T F H => thenA ih (.loop c) (ih c T F H)
  | .exit id => fun _ T F H => .ok (.exit id) T F H
  | .ret => fun _ T F H => .ok .ret T F H
  | .rangeFunc f params assign body => fun ih T F H => rangeV M ih params assign body T F H (ev T f)
  | _ => fun _ _ _ _ => .no
noncomputable def execF (M : Memo) (c : Code) : Ih → Tr V → Fr → Hp → Res :=
 @Code.rec (fun _ => Ih → Tr V → Fr → Hp → Res)
 (fun _ T F H => .ok .normal T F H)
 (fun _ ops d ih T F H => regionA M ih ops T F H d)
 (fun a b _ _ ih T F H => thenA ih b (ih a T F H))
 (fun c a b _ _ ih T F H => condA ih a b T F H (ev T c))
 (fun id c _ ih T F H => blockA id (ih c T F H))
 (fun c _ ih T F H => thenA ih (.loop c) (ih c T F H))
 (fun f params assign body _ _ ih T F H => rangeV M ih params assign body T F H (ev T f))
 (fun id _ T F H => .ok (.exit id) T F H)
 (fun _ _ _ _ _ _ => .no)
 (fun _ _ _ _ _ => .no)
 (fun _ _ _ _ _ => .no)
 (fun _ T F H => .ok .ret T F H)
 (fun _ _ _ _ _ => .no)
 c
def exec' (M : Memo) : Nat → Ih
  | 0 => fun _ _ _ _ => .no
  | n + 1 => fun c T F H => execF M c (exec' M n) T F H
noncomputable def exec (M : Memo) (n : Nat) : Ih :=
 @Nat.rec (fun _ => Ih) (fun _ _ _ _ => .no) (fun _ ih c T F H => execF M c ih T F H) n
def callN (M : Memo) (n : Nat) (f : Nat) (args : List V) (H : Hp) : CRes := callF M (exec M n) f args none H

/-! slices.Insert of one element ahead of the end, into a row whose capacity is not known -/
def insGo (H : Hp) (x len esz n : Nat) (l vs : List V) (e : Nat) : Bool → CRes
  | true => .ok (.ret (.sl H.nx 0 (Nat.succ len) 0 esz)) none ((H.set x .dead).new (.c (l.take (n * esz) ++ vs ++ l.drop (n * esz)) e))
  | false => .no
def insOf (H : Hp) (x len esz n y : Nat) : Option O → Option (List V) → CRes
  | some (.c l e), some vs => insGo H x len esz n l vs e (both (Nat.blt n len) (both (Nat.beq (len * esz) l.length) (notB (Nat.beq x y))))
  | _, _ => .no
def insertA (H : Hp) : List V → CRes
  | [.sl x 0 len 0 esz, .i _ (.ofNat n), .sl y o 1 _ _] => insOf H x len esz n y (H.get x) (subO o esz (H.get y))
  | _ => .no
end
end Go.Proofs.YtmikbfdpenggjaaGreatDoor.Cv

namespace Go.Proofs.YtmikbfdpenggjaaGreatDoor.Cv
open Go
theorem beq_t {a b : Nat} (h : a = b) : Nat.beq a b = true := Nat.beq_eq ▸ h
theorem beq_f {a b : Nat} (h : a ≠ b) : Nat.beq a b = false := by
  cases e : Nat.beq a b
  · rfl
  · exact absurd (Nat.eq_of_beq_eq_true e) h
theorem of_beq {a b : Nat} (h : Nat.beq a b = true) : a = b := Nat.eq_of_beq_eq_true h
theorem of_beq_f {a b : Nat} (h : Nat.beq a b = false) : a ≠ b := Nat.ne_of_beq_eq_false h
theorem of_ble {a b : Nat} (h : Nat.ble a b = true) : a ≤ b := Nat.le_of_ble_eq_true h
theorem of_ble_f {a b : Nat} (h : Nat.ble a b = false) : b < a := by
  rcases Nat.lt_or_ge b a with h' | h'
  · exact h'
  · rw [Nat.ble_eq_true_of_le h'] at h; cases h
theorem of_blt {a b : Nat} (h : Nat.blt a b = true) : a < b := of_ble h
theorem of_blt_f {a b : Nat} (h : Nat.blt a b = false) : b ≤ a := Nat.le_of_lt_succ (of_ble_f h)
section tree
variable {α : Type}
theorem Tr.get_e (k : Nat) : (Tr.e : Tr α).get k = none := rfl
theorem Tr.get_n (v : Option α) (l r : Tr α) (k : Nat) :
    (Tr.n v l r).get k = if k = 0 then v else if k % 2 = 1 then l.get (k / 2) else r.get (k / 2 - 1) := by
  have e : (Tr.n v l r).get k = @Bool.rec (fun _ => Option α) (@Bool.rec (fun _ => Option α) (r.get (Nat.pred (Nat.div k 2))) (l.get (Nat.div k 2)) (Nat.beq (Nat.mod k 2) 1)) v (Nat.beq k 0) := rfl
  rw [e]
  by_cases h : k = 0
  · subst h; rfl
  · rw [if_neg h, beq_f h]
    by_cases h2 : k % 2 = 1
    · rw [if_pos h2, show Nat.beq (Nat.mod k 2) 1 = true from beq_t h2]; rfl
    · rw [if_neg h2, show Nat.beq (Nat.mod k 2) 1 = false from beq_f h2]; rfl
theorem Tr.put_e (k : Nat) (x : α) : (Tr.e : Tr α).put k x = Tr.one x (Nat.succ k) k := rfl
theorem Tr.put_n (v : Option α) (l r : Tr α) (k : Nat) (x : α) :
    (Tr.n v l r).put k x = if k = 0 then .n (some x) l r else if k % 2 = 1 then .n v (l.put (k / 2) x) r else .n v l (r.put (k / 2 - 1) x) := by
  have e : (Tr.n v l r).put k x = @Bool.rec (fun _ => Tr α) (@Bool.rec (fun _ => Tr α) (.n v l (r.put (Nat.pred (Nat.div k 2)) x)) (.n v (l.put (Nat.div k 2) x) r) (Nat.beq (Nat.mod k 2) 1)) (.n (some x) l r) (Nat.beq k 0) := rfl
  rw [e]
  by_cases h : k = 0
  · subst h; rfl
  · rw [if_neg h, beq_f h]
    by_cases h2 : k % 2 = 1
    · rw [if_pos h2, show Nat.beq (Nat.mod k 2) 1 = true from beq_t h2]; rfl
    · rw [if_neg h2, show Nat.beq (Nat.mod k 2) 1 = false from beq_f h2]; rfl
theorem Tr.one_succ (x : α) (f k : Nat) :
    Tr.one x (f + 1) k = if k = 0 then .n (some x) .e .e else if k % 2 = 1 then .n none (Tr.one x f (k / 2)) .e else .n none .e (Tr.one x f (k / 2 - 1)) := by
  rw [Tr.one]
  by_cases h : k = 0
  · subst h; rfl
  · rw [if_neg h, beq_f h]
    by_cases h2 : k % 2 = 1
    · rw [if_pos h2, show Nat.beq (Nat.mod k 2) 1 = true from beq_t h2]; rfl
    · rw [if_neg h2, show Nat.beq (Nat.mod k 2) 1 = false from beq_f h2]; rfl
theorem Tr.get_one (x : α) : ∀ (f k j : Nat), k < f → (Tr.one x f k).get j = if j = k then some x else none := by
  intro f
  induction f with
  | zero => intro k j h; omega
  | succ f ih =>
    intro k j h
    rw [Tr.one_succ]
    by_cases h0 : k = 0
    · subst h0
      rw [if_pos rfl, Tr.get_n]
      by_cases hj : j = 0
      · simp [hj]
      · simp [hj, Tr.get_e]
    · rw [if_neg h0]
      by_cases h1 : k % 2 = 1
      · rw [if_pos h1, Tr.get_n]
        by_cases hj : j = 0
        · rw [if_pos hj, if_neg (by omega)]
        · rw [if_neg hj]
          by_cases hj1 : j % 2 = 1
          · rw [if_pos hj1, ih _ _ (by omega)]
            by_cases e : j = k
            · rw [if_pos e, if_pos (by omega)]
            · rw [if_neg e, if_neg (by omega)]
          · rw [if_neg hj1, Tr.get_e, if_neg (by intro e; omega)]
      · rw [if_neg h1, Tr.get_n]
        by_cases hj : j = 0
        · rw [if_pos hj, if_neg (by omega)]
        · rw [if_neg hj]
          by_cases hj1 : j % 2 = 1
          · rw [if_pos hj1, Tr.get_e, if_neg (by intro e; omega)]
          · rw [if_neg hj1, ih _ _ (by omega)]
            by_cases e : j = k
            · rw [if_pos e, if_pos (by omega)]
            · rw [if_neg e, if_neg (by omega)]
theorem Tr.get_put (t : Tr α) (x : α) : ∀ (k j : Nat), (t.put k x).get j = if j = k then some x else t.get j := by
  induction t with
  | e => intro k j; rw [Tr.put_e, Tr.get_one x _ _ _ (Nat.lt_succ_self k)]; simp [Tr.get_e]
  | n v l r ihl ihr =>
    intro k j
    rw [Tr.put_n]
    by_cases h0 : k = 0
    · subst h0
      rw [if_pos rfl, Tr.get_n, Tr.get_n]
      by_cases hj : j = 0 <;> simp [hj]
    · rw [if_neg h0]
      by_cases h1 : k % 2 = 1
      · rw [if_pos h1, Tr.get_n, Tr.get_n]
        by_cases hj : j = 0
        · rw [if_pos hj, if_neg (by omega), if_pos hj]
        · rw [if_neg hj, if_neg hj]
          by_cases hj1 : j % 2 = 1
          · rw [if_pos hj1, if_pos hj1, ihl]
            by_cases e : j = k
            · rw [if_pos e, if_pos (by omega)]
            · rw [if_neg e, if_neg (by omega)]
          · rw [if_neg hj1, if_neg hj1, if_neg (by intro e; omega)]
      · rw [if_neg h1, Tr.get_n, Tr.get_n]
        by_cases hj : j = 0
        · rw [if_pos hj, if_neg (by omega), if_pos hj]
        · rw [if_neg hj, if_neg hj]
          by_cases hj1 : j % 2 = 1
          · rw [if_pos hj1, if_pos hj1, if_neg (by intro e; omega)]
          · rw [if_neg hj1, if_neg hj1, ihr]
            by_cases e : j = k
            · rw [if_pos e, if_pos (by omega)]
            · rw [if_neg e, if_neg (by omega)]
theorem Tr.get_set (t : Tr α) (x : α) (k j : Nat) : (t.set x k).get j = if j = k then some x else t.get j := Tr.get_put t x k j
end tree
theorem Hp.get_set (H : Hp) (x y : Nat) (o : O) : (H.set x o).get y = if y = x then some o else H.get y := by cases H; exact Tr.get_set _ _ _ _
theorem Hp.get_new (H : Hp) (y : Nat) (o : O) : (H.new o).get y = if y = H.nx then some o else H.get y := by cases H; exact Tr.get_set _ _ _ _
theorem Hp.nx_set (H : Hp) (x : Nat) (o : O) : (H.set x o).nx = H.nx := by cases H; rfl
theorem Hp.nx_new (H : Hp) (o : O) : (H.new o).nx = H.nx + 1 := by cases H; rfl
end Go.Proofs.YtmikbfdpenggjaaGreatDoor.Cv
