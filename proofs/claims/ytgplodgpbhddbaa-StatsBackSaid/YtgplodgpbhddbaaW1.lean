/-
  Proved here: what a piece of code does to a frame and a world, as a predicate transformer (definitions and facts).
  Conditions: those that each fact names.
-/
import Derived.WalkKit
import Derived.Orders
import Derived.OrdersHeld
import Derived.OrdersIn
import Derived.TacticsIn
import Derived.RangeFuncIn
namespace Go.W
open Go

/-! frames as functions -/
def upd (F : Nat → Value) (d : Nat) (v : Value) : Nat → Value := fun t => bif Nat.beq t d then v else F t
/-- the place in a frame where the activation's deferred calls are coded -/
abbrev KD : Nat := 4294967296
def ev (F : Nat → Value) : Operand → Value
  | .tmp t => match Nat.beq t 4294967296 with | true => undef | false => F t
  | .const v => v
  | .global g => .pointer (some ⟨g, 0, none⟩)
  | .func f => .func (.func f) #[] #[]
def argF : List Value → Nat → Value
  | [], _ => undef
  | v :: _, 0 => v
  | _ :: vs, t + 1 => argF vs t

structure KS where
  nrm : (Nat → Value) → World → Prop
  ext : Nat → (Nat → Value) → World → Prop
  ret : (Nat → Value) → World → Prop
  pan : (Nat → Value) → List PanicEntry → World → Prop

/-- deferred calls, as a value: of a range over a function its block; a call of a function value -/
def decD1 : Value → Option Deferred
  | .pointer (some ⟨b, _, _⟩) => some { target := .collected b, args := #[] }
  | .agg vs => match vs.toList with
    | .func fn first captured :: args => some { target := .fn fn captured, args := first ++ args.toArray }
    | _ => none
  | _ => none
def decDL : List Value → List Deferred
  | [] => []
  | v :: r => match decD1 v with | some d => d :: decDL r | none => decDL r
def decD : Value → List Deferred
  | .agg vs => decDL vs.toList
  | _ => []
def consD (v d : Value) : Value := match d with
  | .agg vs => .agg (v :: vs.toList).toArray
  | _ => .agg #[v]
theorem decD_cons (v d : Value) (x : Deferred) (h : decD1 v = some x) : decD (consD v d) = x :: decD d := by
  cases d <;> simp [consD, decD, decDL, h]

/-- the frame F describes the act a -/
structure Rel (n : Nat) (F : Nat → Value) (a : Act) : Prop where
  size : a.tmps.size = n
  le : n ≤ 4294967296
  defers : a.defers = decD (F 4294967296)
  get : ∀ t, t ≠ 4294967296 → a.tmps.getD t undef = F t

/-- slots that code writes -/
def isD (d : Option Nat) (t : Nat) : Bool := match d with | some d => Nat.beq t d | none => false
def isDef : Op → Bool
  | .defer _ => true
  | _ => false
def wrO (o : Oper) (t : Nat) : Bool := isD o.dst t || (isDef o.op && Nat.beq t 4294967296)
def wrL : List Oper → Nat → Bool
  | [], _ => false
  | o :: r, t => wrO o t || wrL r t
def wr : Code → Nat → Bool
  | .region _ ops _, t => wrL ops.toList t
  | .seq a b, t => wr a t || wr b t
  | .cond _ a b, t => wr a t || wr b t
  | .block _ c, t => wr c t
  | .loop c, t => wr c t
  | .scope c, t => wr c t
  | .rangeFunc .., t => Nat.beq t 4294967296
  | _, _ => false

def agree (ws : Nat → Bool) (F F' : Nat → Value) : Prop := ∀ t, ws t = false → F' t = F t

def KS.lift (Q : KS) (n : Nat) (F : Nat → Value) (ws : Nat → Bool) : Exit → Act → World → Prop := fun e a w =>
  match e with
  | .normal => ∃ F', Rel n F' a ∧ agree ws F F' ∧ Q.nrm F' w
  | .exit i => ∃ F', Rel n F' a ∧ agree ws F F' ∧ Q.ext i F' w
  | .ret => ∃ F', Rel n F' a ∧ agree ws F F' ∧ Q.ret F' w
  | .panic c => ∃ F', Rel n F' a ∧ agree ws F F' ∧ Q.pan F' c w
  | _ => False

structure Tab where
  kinds : List (Nat × Nat)
  offs : List (Nat × List (Option Nat))
  round : Bool := false
/-- the fence that asks nothing, at a frame of this kind -/
def fw (r : Option Nat) : Fence := { Fence.wide with round := r }
/-- code whose rule is chosen by hand -/
structure DeepS (P : Program) (T : Tab) (n : Nat) (c : Code) (Q : KS) (F : Nat → Value) (w : World) : Prop where
  out : ∀ r : Option Nat, r.isSome = T.round → ∀ a, Rel n F a → c.wpIn (fw r) 0 P (Q.lift n F (wr c)) a w
theorem DeepS_iff (P : Program) (T : Tab) (n : Nat) (c : Code) (Q : KS) (F : Nat → Value) (w : World) : DeepS P T n c Q F w ↔ (∀ r : Option Nat, r.isSome = T.round → ∀ a, Rel n F a → c.wpIn (fw r) 0 P (Q.lift n F (wr c)) a w) := ⟨fun h => h.out, fun h => ⟨h⟩⟩

/-- a comparison: the two ways on -/
structure IteC (p A B : Prop) : Prop where
  t : p → A
  f : ¬ p → B
def condS (b : Bool) (A B : Prop) : Prop := match b with | true => A | false => B

def callable (P : Program) (f : FuncId) : Prop := ∃ fn, P.funcs[f]? = some fn ∧ fn.body.isSome = true ∧ (fn.name == "runtime.NumGoroutine") = false
def Ret (R : Value → World → Prop) : Ending → World → Prop
  | .returned v, w => R v w
  | _, _ => False
def RetP (R : Value → World → Prop) (pn : List PanicEntry → World → Prop) : Ending → World → Prop
  | .returned v, w => R v w
  | .panicked c, w => pn c w
  | .outgrown, _ => False
/-- the contract of a function: called with these values in this world it returns, and R holds of what it returns -/
structure Sp (P : Program) (f : FuncId) (args : Array Value) (w : World) (R : Value → World → Prop) : Prop where
  can : callable P f
  calls : Calls P f args w (Ret R)

structure CallS (P : Program) (f : FuncId) (args : Array Value) (k : Value → World → Prop) (pn : List PanicEntry → World → Prop) (w : World) : Prop where
  out : callable P f ∧ Calls P f args w (RetP k pn)
theorem CallS_iff (P : Program) (f : FuncId) (args : Array Value) (k : Value → World → Prop) (pn : List PanicEntry → World → Prop) (w : World) : CallS P f args k pn w ↔ (callable P f ∧ Calls P f args w (RetP k pn)) := ⟨fun h => h.out, fun h => ⟨h⟩⟩


/-- an operation of the model, run -/
structure SemV (P : Program) (s : Sem Value) (k : Value → World → Prop) (pn : List PanicEntry → World → Prop) (w : World) : Prop where
  out : match s.run P w with | .ok v w' => k v w' | .halt (.panic v) w' => pn [{ v, recovered := false }] w' | .halt _ _ => False
theorem SemV_iff (P : Program) (s : Sem Value) (k : Value → World → Prop) (pn : List PanicEntry → World → Prop) (w : World) : SemV P s k pn w ↔ (match s.run P w with | .ok v w' => k v w' | .halt (.panic v) w' => pn [{ v, recovered := false }] w' | .halt _ _ => False) := ⟨fun h => h.out, fun h => ⟨h⟩⟩

structure SemU (P : Program) (s : Sem Unit) (k : Value → World → Prop) (pn : List PanicEntry → World → Prop) (w : World) : Prop where
  out : match s.run P w with | .ok _ w' => k undef w' | .halt (.panic v) w' => pn [{ v, recovered := false }] w' | .halt _ _ => False
theorem SemU_iff (P : Program) (s : Sem Unit) (k : Value → World → Prop) (pn : List PanicEntry → World → Prop) (w : World) : SemU P s k pn w ↔ (match s.run P w with | .ok _ w' => k undef w' | .halt (.panic v) w' => pn [{ v, recovered := false }] w' | .halt _ _ => False) := ⟨fun h => h.out, fun h => ⟨h⟩⟩

structure RoundS (P : Program) (l : Nat) (f : FuncId) (tmps : Array Value) (assign body : Code) (k : Value → World → Prop) (pn : List PanicEntry → World → Prop) (w : World) : Prop where
  out : RoundIn Fence.wide 0 P l f tmps assign body w (RetP k pn)
/-- anything else -/
structure NextS (P : Program) (s : Sem Next) (k : Value → World → Prop) (pn : List PanicEntry → World → Prop) (w : World) : Prop where
  out : match s.run P w with
  | .ok (.value v) w' => k v w'
  | .ok .skip w' => k undef w'
  | .ok (.enter f args) w' => CallS P f args k pn w'
  | .ok (.round l f tmps assign body) w' => RoundS P l f tmps assign body k pn w'
  | .halt (.panic v) w' => pn [{ v, recovered := false }] w'
  | _ => False
theorem NextS_iff (P : Program) (s : Sem Next) (k : Value → World → Prop) (pn : List PanicEntry → World → Prop) (w : World) : NextS P s k pn w ↔ (match s.run P w with
  | .ok (.value v) w' => k v w'
  | .ok .skip w' => k undef w'
  | .ok (.enter f args) w' => CallS P f args k pn w'
  | .ok (.round l f tmps assign body) w' => RoundS P l f tmps assign body k pn w'
  | .halt (.panic v) w' => pn [{ v, recovered := false }] w'
  | _ => False) := ⟨fun h => h.out, fun h => ⟨h⟩⟩


/-- arithmetic: the result is the number itself, or it wraps -/
structure ArS (kd : IntKind) (x : Int) (k : Value → World → Prop) (w : World) : Prop where
  out : k (.int kd (kd.wrap x)) w
theorem ArS_iff (kd : IntKind) (x : Int) (k : Value → World → Prop) (w : World) : ArS kd x k w ↔ (k (.int kd (kd.wrap x)) w) := ⟨fun h => h.out, fun h => ⟨h⟩⟩

structure DivS (kd : IntKind) (x y : Int) (k : Value → World → Prop) (w : World) : Prop where
  out : y ≠ 0 ∧ k (.int kd (kd.wrap (x.tdiv y))) w
theorem DivS_iff (kd : IntKind) (x y : Int) (k : Value → World → Prop) (w : World) : DivS kd x y k w ↔ (y ≠ 0 ∧ k (.int kd (kd.wrap (x.tdiv y))) w) := ⟨fun h => h.out, fun h => ⟨h⟩⟩

structure RemS (kd : IntKind) (x y : Int) (k : Value → World → Prop) (w : World) : Prop where
  out : y ≠ 0 ∧ k (.int kd (x.tmod y)) w
theorem RemS_iff (kd : IntKind) (x y : Int) (k : Value → World → Prop) (w : World) : RemS kd x y k w ↔ (y ≠ 0 ∧ k (.int kd (x.tmod y)) w) := ⟨fun h => h.out, fun h => ⟨h⟩⟩


def kindEq : IntKind → IntKind → Bool
  | .i8, .i8 | .i16, .i16 | .i32, .i32 | .i64, .i64 | .u8, .u8 | .u16, .u16 | .u32, .u32 | .u64, .u64 => true
  | _, _ => false

def cmpS (op : BinOp) (m n : Int) (k : Value → World → Prop) (alt : Prop) (w : World) : Prop :=
  match op with
  | .eql => IteC (m = n) (k (.bool true) w) (k (.bool false) w)
  | .neq => IteC (m ≠ n) (k (.bool true) w) (k (.bool false) w)
  | .lss => IteC (m < n) (k (.bool true) w) (k (.bool false) w)
  | .leq => IteC (m ≤ n) (k (.bool true) w) (k (.bool false) w)
  | .gtr => IteC (n < m) (k (.bool true) w) (k (.bool false) w)
  | .geq => IteC (n ≤ m) (k (.bool true) w) (k (.bool false) w)
  | _ => alt

def binS (P : Program) (op : BinOp) (t : TypeId) (a b : Operand) (x y : Value) (k : Value → World → Prop) (pn : List PanicEntry → World → Prop) (w : World) : Prop :=
  match x, y with
  | .int kx m, .int ky n =>
    bif kindEq kx ky then
      match op with
      | .add => ArS kx (m + n) k w
      | .sub => ArS kx (m - n) k w
      | .mul => ArS kx (m * n) k w
      | .quo => DivS kx m n k w
      | .rem => RemS kx m n k w
      | op => cmpS op m n k (SemV P (do eqGuard op t a b (.int kx m) (.int ky n); binOp op t (.int kx m) (.int ky n)) k pn w) w
    else False
  | x, y => SemV P (do eqGuard op t a b x y; binOp op t x y) k pn w

def unS (P : Program) (op : UnOp) (x : Value) (k : Value → World → Prop) (pn : List PanicEntry → World → Prop) (w : World) : Prop :=
  match op, x with
  | .not, .bool b => k (.bool (!b)) w
  | op, x => SemV P (Op.unary op x) k pn w

def fnS (P : Program) (f : Value) (args : List Value) (alt : Prop) (k : Value → World → Prop) (pn : List PanicEntry → World → Prop) (w : World) : Prop :=
  match f with
  | .func (.func g) first captured => CallS P g (first.toList ++ args ++ captured.toList).toArray k pn w
  | _ => alt

def lk {α : Type} : List (Nat × α) → Nat → α → α
  | [], _, d => d
  | (k, v) :: r, t, d => bif Nat.beq k t then v else lk r t d
def nth {α : Type} : List α → Nat → Option α
  | [], _ => none
  | x :: _, 0 => some x
  | _ :: r, i + 1 => nth r i

def lenS (T : Tab) (t : TypeId) (x : Value) (alt : Prop) (k : Value → World → Prop) (w : World) : Prop :=
  match x with
  | .slice _ n _ => match lk T.kinds t 0 with | 1 => k (.int .i64 n) w | _ => False
  | .string s => match lk T.kinds t 0 with | 2 => k (.int .i64 s.size) w | _ => False
  | _ => alt

def fieldS (T : Tab) (s f : Nat) (x : Value) (alt : Prop) (k : Value → World → Prop) (w : World) : Prop :=
  match x with
  | .pointer (some ⟨b, o, none⟩) => match nth (lk T.offs s []) f with
    | some (some d) => k (.pointer (some ⟨b, o + d, none⟩)) w
    | _ => alt
  | _ => alt

def pickS (c a b : Value) (k : Value → World → Prop) (w : World) : Prop :=
  match c with
  | .bool c => match c with | true => k a w | false => k b w
  | _ => False

def nilS (x : Value) (alt : Prop) (k : Value → World → Prop) (w : World) : Prop :=
  match x with
  | .pointer (some a) => k (.pointer (some a)) w
  | _ => alt

def extS (t : Value) (i : Nat) (k : Value → World → Prop) (w : World) : Prop :=
  match t with
  | .tuple vs => match nth vs.toList i with | some v => k v w | none => False
  | _ => False

def evL (F : Nat → Value) : List Operand → List Value
  | [] => []
  | x :: r => ev F x :: evL F r

def evP (F : Nat → Value) : List (Nat × Operand) → List (Nat × Value)
  | [] => []
  | (i, x) :: r => (i, ev F x) :: evP F r

def callS (P : Program) (T : Tab) (o : Oper) (c : Call) (F : Nat → Value) (k : Value → World → Prop) (pn : List PanicEntry → World → Prop) (w : World) : Prop :=
  match c.callee with
  | .value f => fnS P (ev F f) (evL F c.args.toList) (NextS P (execOp (ev F) o) k pn w) k pn w
  | .invoke _ _ => NextS P (execOp (ev F) o) k pn w
  | .builtin b => match b with
    | .len => match c.args.toList, c.argTypes.toList with
      | [x], [t] => lenS T t (ev F x) (NextS P (execOp (ev F) o) k pn w) k w
      | _, _ => False
    | .append => SemV P (Builtin.append_ c.argTypes o.type (evL F c.args.toList).toArray) k pn w
    | .copy => SemV P (Builtin.copy_ c.argTypes o.type (evL F c.args.toList).toArray) k pn w
    | .max => SemV P (Builtin.max_ c.argTypes o.type (evL F c.args.toList).toArray) k pn w
    | .min => SemV P (Builtin.min_ c.argTypes o.type (evL F c.args.toList).toArray) k pn w
    | .cap => SemV P (Builtin.cap_ c.argTypes o.type (evL F c.args.toList).toArray) k pn w
    | .delete => SemV P (Builtin.delete_ c.argTypes o.type (evL F c.args.toList).toArray) k pn w
    | _ => NextS P (execOp (ev F) o) k pn w

def opS (P : Program) (T : Tab) (o : Oper) (F : Nat → Value) (k : Value → World → Prop) (pn : List PanicEntry → World → Prop) (w : World) : Prop :=
  match o.op with
  | .move x | .assign x => k (ev F x) w
  | .pick c a b => pickS (ev F c) (ev F a) (ev F b) k w
  | .binOp op t x y _ => binS P op t x y (ev F x) (ev F y) k pn w
  | .unOp op _ x => unS P op (ev F x) k pn w
  | .fieldAddr s x f => fieldS T s f (ev F x) (SemV P (Instr.fieldAt s (ev F x) f) k pn w) k w
  | .extract t i => extS (ev F t) i k w
  | .makeFunc fn first captured => k (.func fn (evL F first.toList).toArray (evL F captured.toList).toArray) w
  | .call c => callS P T o c F k pn w
  | .build t parts => SemV P (Instr.build t (evP F parts.toList).toArray) k pn w
  | .buildSlice t len parts => SemV P (Instr.buildSlice t len (evP F parts.toList).toArray) k pn w
  | .alloc elem => SemV P (Instr.alloc elem true (.tuple #[])) k pn w
  | .box elem x => SemV P (Instr.box elem (ev F x)) k pn w
  | .load t a => SemV P (Instr.loadAt t (ev F a)) k pn w
  | .store t a x => SemU P (Instr.storeAt t (ev F a) (ev F x)) k pn w
  | .indexAddr t x ix => SemV P (Instr.indexAt t (ev F x) (ev F ix)) k pn w
  | .index t x ix => SemV P (Instr.index t (ev F x) (ev F ix)) k pn w
  | .slice t x lo hi mx => SemV P (Instr.sliceAt t (ev F x) (lo.map (ev F)) (hi.map (ev F)) (mx.map (ev F))) k pn w
  | .makeSlice t l c => SemV P (Instr.makeSlice t (ev F l) (ev F c)) k pn w
  | .lookup t x ix ok => SemV P (Instr.lookup t (ev F x) (ev F ix) ok) k pn w
  | .mapUpdate t m kk x => SemU P (Instr.mapUpdate t (ev F m) (ev F kk) (ev F x)) k pn w
  | .convert src dst x => SemV P (convert src dst (ev F x)) k pn w
  | .field t x f => SemV P (Instr.field t (ev F x) f) k pn w
  | .makeInterface t x => SemV P (Instr.makeInterface t (ev F x)) k pn w
  | .typeAssert x t u ok => SemV P (Instr.typeAssert (ev F x) t u ok) k pn w
  | .panic x => SemV P (Instr.panic (ev F x)) k pn w
  | .nilCheck x => nilS (ev F x) (NextS P (execOp (ev F) o) k pn w) k w
  | .defer _ => False
  | _ => NextS P (execOp (ev F) o) k pn w

def putS (n : Nat) (F : Nat → Value) (d : Option Nat) (v : Value) (k : (Nat → Value) → Prop) : Prop :=
  match d with
  | none => k F
  | some d => match Nat.blt d n with | true => k (upd F d v) | false => False

/-- a call that is deferred -/
def defS (T : Tab) (o : Oper) (c : Call) (F : Nat → Value) (k : (Nat → Value) → Prop) : Prop :=
  match T.round, o.guard, o.dst, c.callee with
  | false, none, none, .value f => match ev F f with
    | .func fn first cap => k (upd F 4294967296 (consD (.agg (.func fn first cap :: evL F c.args.toList).toArray) (F 4294967296)))
    | _ => False
  | _, _, _, _ => False

/-- one operation of a row, and what comes behind it (ih) -/
def opsStep (P : Program) (T : Tab) (n : Nat) (all : List Oper) (o : Oper) (ih : (Nat → Value) → ((Nat → Value) → World → Prop) → ((Nat → Value) → List PanicEntry → World → Prop) → World → Prop)
    (F : Nat → Value) (k : (Nat → Value) → World → Prop) (pn : (Nat → Value) → List PanicEntry → World → Prop) (w : World) : Prop :=
  match o.op with
  | .defer c => defS T o c F fun F' => ih F' k pn w
  | _ => match o.guard with
    | none => opS P T o F (fun v w' => putS n F o.dst v fun F' => ih F' k pn w') (pn F) w
    | some (j, want) => match nth all j with
      | some g => match g.dst with
        | some d => match F d with
          | .bool b => match Nat.blt d n with
            | true => match want with
              | true => condS b (opS P T o (upd F d (.bool true)) (fun v w' => putS n (upd F d (.bool true)) o.dst v fun F' => ih F' k pn w') (pn (upd F d (.bool true))) w)
                  (putS n (upd F d (.bool false)) o.dst undef fun F' => ih F' k pn w)
              | false => condS b (putS n (upd F d (.bool true)) o.dst undef fun F' => ih F' k pn w)
                  (opS P T o (upd F d (.bool false)) (fun v w' => putS n (upd F d (.bool false)) o.dst v fun F' => ih F' k pn w') (pn (upd F d (.bool false))) w)
            | false => False
          | .tuple _ => putS n F o.dst undef fun F' => ih F' k pn w
          | _ => False
        | none => False
      | none => False
/-- operations, in the order of the text (by the recursor itself, so that the kernel and the elaborator unfold it alike) -/
def opsS (P : Program) (T : Tab) (n : Nat) (all : List Oper) (l : List Oper) : (Nat → Value) → ((Nat → Value) → World → Prop) → ((Nat → Value) → List PanicEntry → World → Prop) → World → Prop :=
  List.rec (motive := fun _ => (Nat → Value) → ((Nat → Value) → World → Prop) → ((Nat → Value) → List PanicEntry → World → Prop) → World → Prop) (fun F k _ w => k F w) (fun o _ ih => opsStep P T n all o ih) l
theorem opsS_nil (P : Program) (T : Tab) (n : Nat) (all : List Oper) (F : Nat → Value) (k : (Nat → Value) → World → Prop) (pn : (Nat → Value) → List PanicEntry → World → Prop) (w : World) : opsS P T n all [] F k pn w = k F w := rfl
theorem opsS_cons (P : Program) (T : Tab) (n : Nat) (all : List Oper) (o : Oper) (r : List Oper) (F : Nat → Value) (k : (Nat → Value) → World → Prop) (pn : (Nat → Value) → List PanicEntry → World → Prop) (w : World) :
    opsS P T n all (o :: r) F k pn w = opsStep P T n all o (opsS P T n all r) F k pn w := rfl

def S (P : Program) (T : Tab) (n : Nat) (c : Code) : KS → (Nat → Value) → World → Prop :=
  Code.rec (motive := fun _ => KS → (Nat → Value) → World → Prop)
    (fun Q F w => Q.nrm F w)
    (fun i ops draw Q F w => match draw with
      | false => opsS P T n ops.toList ops.toList F Q.nrm Q.pan w
      | true => DeepS P T n (.region i ops true) Q F w)
    (fun _ _ iha ihb Q F w => iha { nrm := fun F' w' => ihb Q F' w', ext := Q.ext, ret := Q.ret, pan := Q.pan } F w)
    (fun c _ _ iha ihb Q F w => match ev F c with
      | .bool t => condS t (iha Q F w) (ihb Q F w)
      | _ => False)
    (fun i _ ih Q F w => ih { nrm := Q.nrm, ext := fun j F' w' => match Nat.beq j i with | true => Q.nrm F' w' | false => Q.ext j F' w', ret := Q.ret, pan := Q.pan } F w)
    (fun c _ Q F w => DeepS P T n (.loop c) Q F w)
    (fun f ps as b _ _ Q F w => DeepS P T n (.rangeFunc f ps as b) Q F w)
    (fun i Q F w => Q.ext i F w)
    (fun _ ih Q F w => ih Q F w)
    (fun _ Q F w => Q.nrm F w)
    (fun l Q F w => DeepS P T n (.goto l) Q F w)
    (fun Q F w => Q.ret F w)
    (fun y Q F w => DeepS P T n (.refuse y) Q F w) c

section
variable (P : Program) (T : Tab) (n : Nat) (Q : KS) (F : Nat → Value) (w : World)
theorem S_skip : S P T n .skip Q F w = Q.nrm F w := rfl
theorem S_label (l : Nat) : S P T n (.label l) Q F w = Q.nrm F w := rfl
theorem S_ret : S P T n .ret Q F w = Q.ret F w := rfl
theorem S_exit (i : Nat) : S P T n (.exit i) Q F w = Q.ext i F w := rfl
theorem S_seq (a b : Code) : S P T n (.seq a b) Q F w = S P T n a { Q with nrm := fun F' w' => S P T n b Q F' w' } F w := rfl
theorem S_cond (c : Operand) (a b : Code) : S P T n (.cond c a b) Q F w = match ev F c with
    | .bool t => condS t (S P T n a Q F w) (S P T n b Q F w)
    | _ => False := rfl
theorem S_block (i : Nat) (c : Code) : S P T n (.block i c) Q F w = S P T n c { Q with ext := fun j F' w' => match Nat.beq j i with | true => Q.nrm F' w' | false => Q.ext j F' w' } F w := rfl
theorem S_scope (c : Code) : S P T n (.scope c) Q F w = S P T n c Q F w := rfl
theorem S_region (i : Nat) (ops : Array Oper) : S P T n (.region i ops false) Q F w = opsS P T n ops.toList ops.toList F Q.nrm Q.pan w := rfl
theorem S_draw (i : Nat) (ops : Array Oper) : S P T n (.region i ops true) Q F w = DeepS P T n (.region i ops true) Q F w := rfl
theorem S_loop (c : Code) : S P T n (.loop c) Q F w = DeepS P T n (.loop c) Q F w := rfl
theorem S_rangeFunc (f : Operand) (ps : Array Tmp) (a b : Code) : S P T n (.rangeFunc f ps a b) Q F w = DeepS P T n (.rangeFunc f ps a b) Q F w := rfl
theorem S_goto (l : Nat) : S P T n (.goto l) Q F w = DeepS P T n (.goto l) Q F w := rfl
theorem S_refuse (y : String) : S P T n (.refuse y) Q F w = DeepS P T n (.refuse y) Q F w := rfl
end
end Go.W
