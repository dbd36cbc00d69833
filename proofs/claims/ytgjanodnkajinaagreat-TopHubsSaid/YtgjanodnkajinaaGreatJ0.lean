/-
  Proved here: a part of the walks and plain laws of this claim (merged by a program of mine).
  Conditions: those that each fact names.
-/
import Derived.WalkKit
import Derived.Orders
import Derived.OrdersHeld
import Derived.OrdersIn
import Derived.TacticsIn
import Derived.RangeFuncIn
import Derived.Scope
import Derived.RangeFuncLeaves
import Derived.RangeFuncRecord
import Derived.Laws.CopyOwn
import Derived.Laws.MakeOwn
import Derived.ProofKit
import Derived.SizedLaws
import Derived.WalkSpells
import Derived.Laws.StructEq
import Derived.Sort.Grow
import Derived.Deep.Draws
set_option linter.unusedVariables false
set_option linter.unusedSimpArgs false
namespace Go.W
open Go
variable {B N i j k m n:Nat} {D:Nat -> Prop} {P:Program} {a a':Option Addr} {u u' w w':World}
def upd (F:Nat->Value) (d:Nat) (v:Value):Nat->Value:=λt=>bif Nat.beq t d then v else F t
def ev (F:Nat->Value):Operand->Value
 |.tmp t=>match Nat.beq t 4294967296 with|true=>undef|false=>F t
 |.const v=>v
 |.global g=>.pointer (some ⟨g,0,none⟩)
 |.func f=>.func (.func f) #[] #[]
def argF:List Value->Nat->Value
 |[],_=>undef
 |v::_,0=>v
 |_::vs,t+1=>argF vs t
structure KS where
 nrm:(Nat->Value)->World->Prop
 ext:Nat->(Nat->Value)->World->Prop
 ret:(Nat->Value)->World->Prop
 pan:(Nat->Value)->List PanicEntry->World->Prop
def decD1:Value->Option Deferred
 |.pointer (some ⟨b,_,_⟩)=>some { target:=.collected b,args:=#[] }
 |.agg vs=>match vs.toList with
  |.func fn first captured::args=>some { target:=.fn fn captured,args:=first++args.toArray }
  |_=>none
 |_=>none
def decDL:List Value->List Deferred
 |[]=>[]
 |v::r=>match decD1 v with|some d=>d::decDL r|none=>decDL r
def decD:Value->List Deferred
 |.agg vs=>decDL vs.toList
 |_=>[]
def consD (v d:Value):Value:=match d with
 |.agg vs=>.agg (v::vs.toList).toArray
 |_=>.agg #[v]
theorem zCZ(v d:Value)(x:Deferred)(h:decD1 v=some x):decD (consD v d)=x::decD d:=by
 cases d <;> simp [consD,decD,decDL,h]
structure Rel (n:Nat) (F:Nat->Value) (a:Act):Prop where
 size:a.tmps.size=n
 le:n<=4294967296
 defers:a.defers=decD (F 4294967296)
 get:∀t,t≠4294967296->a.tmps.getD t undef=F t
def isD (d:Option Nat) (t:Nat):Bool:=match d with|some d=>Nat.beq t d|none=>false
def isDef:Op->Bool
 |.defer _=>true
 |_=>false
def wrO (o:Oper) (t:Nat):Bool:=isD o.dst t || (isDef o.op && Nat.beq t 4294967296)
def wrL:List Oper->Nat->Bool
 |[],_=>false
 |o::r,t=>wrO o t || wrL r t
def wr:Code->Nat->Bool
 |.region _ ops _,t=>wrL ops.toList t
 |.seq a b,t=>wr a t || wr b t
 |.cond _ a b,t=>wr a t || wr b t
 |.block _ c,t=>wr c t
 |.loop c,t=>wr c t
 |.scope c,t=>wr c t
 |.rangeFunc ..,t=>Nat.beq t 4294967296
 |_,_=>false
def agree (ws:Nat->Bool) (F F':Nat->Value):Prop:=∀t,ws t=false->F' t=F t
def KS.lift (Q:KS) (n:Nat) (F:Nat->Value) (ws:Nat->Bool):Exit->Act->World->Prop:=λe a w =>
 match e with
 |.normal=>∃F',Rel n F' a/\agree ws F F'/\Q.nrm F' w
 |.exit i=>∃F',Rel n F' a/\agree ws F F'/\Q.ext i F' w
 |.ret=>∃F',Rel n F' a/\agree ws F F'/\Q.ret F' w
 |.panic c=>∃F',Rel n F' a/\agree ws F F'/\Q.pan F' c w
 |_=>False
structure Tab where
 kinds:List (Nat×Nat)
 offs:List (Nat×List (Option Nat))
 round:Bool:=false
def fw (r:Option Nat):Fence:={ Fence.wide with round:=r }
structure DeepS (P:Program) (T:Tab) (n:Nat) (c:Code) (Q:KS) (F:Nat->Value) (w:World):Prop where
 out:∀r:Option Nat,r.isSome=T.round->∀a,Rel n F a->c.wpIn (fw r) 0 P (Q.lift n F (wr c)) a w
theorem zAN(P:Program)(T:Tab)(n:Nat)(c:Code)(Q:KS)(F:Nat->Value)(w:World):DeepS P T n c Q F w↔(∀r:Option Nat,r.isSome=T.round->∀a,Rel n F a->c.wpIn (fw r) 0 P (Q.lift n F (wr c)) a w):=⟨λh=>h.out,λh=>⟨h⟩⟩
structure IteC (p A B:Prop):Prop where
 t:p->A
 f:¬p->B
def condS (b:Bool) (A B:Prop):Prop:=match b with|true=>A|false=>B
def callable (P : Program) (f : FuncId) : Prop := ∃ fn, P.funcs[f]? = some fn /\ fn.body.isSome = true /\ (fn.name == "runtime.NumGoroutine") = false
def Ret (R:Value->World->Prop):Ending->World->Prop
 |.returned v,w=>R v w
 |_,_=>False
def RetP (R:Value->World->Prop) (pn:List PanicEntry->World->Prop):Ending->World->Prop
 |.returned v,w=>R v w
 |.panicked c,w=>pn c w
 |.outgrown,_=>False
structure Sp (P:Program) (f:FuncId) (args:Array Value) (w:World) (R:Value->World->Prop):Prop where
 can:callable P f
 calls:Calls P f args w (Ret R)
structure CallS (P:Program) (f:FuncId) (args:Array Value) (k:Value->World->Prop) (pn:List PanicEntry->World->Prop) (w:World):Prop where
 out:callable P f/\Calls P f args w (RetP k pn)
theorem zA8(P:Program)(f:FuncId)(args:Array Value)(k:Value->World->Prop)(pn:List PanicEntry->World->Prop)(w:World):CallS P f args k pn w↔(callable P f/\Calls P f args w (RetP k pn)):=⟨λh=>h.out,λh=>⟨h⟩⟩
structure SemV (P:Program) (s:Sem Value) (k:Value->World->Prop) (pn:List PanicEntry->World->Prop) (w:World):Prop where
 out:match s.run P w with | .ok v w'=>k v w' | .halt (.panic v) w'=>pn [{ v,recovered:=false }] w' | .halt _ _=>False
theorem zCC(P:Program)(s:Sem Value)(k:Value->World->Prop)(pn:List PanicEntry->World->Prop)(w:World):SemV P s k pn w↔(match s.run P w with | .ok v w'=>k v w' | .halt (.panic v) w'=>pn [{ v,recovered:=false }] w' | .halt _ _=>False):=⟨λh=>h.out,λh=>⟨h⟩⟩
structure SemU (P:Program) (s:Sem Unit) (k:Value->World->Prop) (pn:List PanicEntry->World->Prop) (w:World):Prop where
 out:match s.run P w with | .ok _ w'=>k undef w' | .halt (.panic v) w'=>pn [{ v,recovered:=false }] w' | .halt _ _=>False
theorem zDM(P:Program)(s:Sem Unit)(k:Value->World->Prop)(pn:List PanicEntry->World->Prop)(w:World):SemU P s k pn w↔(match s.run P w with | .ok _ w'=>k undef w' | .halt (.panic v) w'=>pn [{ v,recovered:=false }] w' | .halt _ _=>False):=⟨λh=>h.out,λh=>⟨h⟩⟩
structure RoundS (P:Program) (l:Nat) (f:FuncId) (tmps:Array Value) (assign body:Code) (k:Value->World->Prop) (pn:List PanicEntry->World->Prop) (w:World):Prop where
 out:RoundIn Fence.wide 0 P l f tmps assign body w (RetP k pn)
structure NextS (P:Program) (s:Sem Next) (k:Value->World->Prop) (pn:List PanicEntry->World->Prop) (w:World):Prop where
 out:match s.run P w with
 |.ok (.value v) w'=>k v w'
 |.ok .skip w'=>k undef w'
 |.ok (.enter f args) w'=>CallS P f args k pn w'
 |.ok (.round l f tmps assign body) w'=>RoundS P l f tmps assign body k pn w'
 |.halt (.panic v) w'=>pn [{ v,recovered:=false }] w'
 |_=>False
theorem zAR(P:Program)(s:Sem Next)(k:Value->World->Prop)(pn:List PanicEntry->World->Prop)(w:World):NextS P s k pn w↔(match s.run P w with
 |.ok (.value v) w'=>k v w'
 |.ok .skip w'=>k undef w'
 |.ok (.enter f args) w'=>CallS P f args k pn w'
 |.ok (.round l f tmps assign body) w'=>RoundS P l f tmps assign body k pn w'
 |.halt (.panic v) w'=>pn [{ v,recovered:=false }] w'
 |_=>False):=⟨λh=>h.out,λh=>⟨h⟩⟩
structure ArS (kd:IntKind) (x:Int) (k:Value->World->Prop) (w:World):Prop where
 out:k (.int kd (kd.wrap x)) w
theorem zDj(kd:IntKind)(x:Int)(k:Value->World->Prop)(w:World):ArS kd x k w↔(k (.int kd (kd.wrap x)) w):=⟨λh=>h.out,λh=>⟨h⟩⟩
structure DivS (kd:IntKind) (x y:Int) (k:Value->World->Prop) (w:World):Prop where
 out:y≠0/\k (.int kd (kd.wrap (x.tdiv y))) w
theorem zDK(kd:IntKind)(x y:Int)(k:Value->World->Prop)(w:World):DivS kd x y k w↔(y≠0/\k (.int kd (kd.wrap (x.tdiv y))) w):=⟨λh=>h.out,λh=>⟨h⟩⟩
structure RemS (kd:IntKind) (x y:Int) (k:Value->World->Prop) (w:World):Prop where
 out:y≠0/\k (.int kd (x.tmod y)) w
theorem zCB(kd:IntKind)(x y:Int)(k:Value->World->Prop)(w:World):RemS kd x y k w↔(y≠0/\k (.int kd (x.tmod y)) w):=⟨λh=>h.out,λh=>⟨h⟩⟩
def kindEq:IntKind->IntKind->Bool
 |.i8,.i8 | .i16,.i16 | .i32,.i32 | .i64,.i64 | .u8,.u8 | .u16,.u16 | .u32,.u32 | .u64,.u64=>true
 |_,_=>false
def cmpS (op:BinOp) (m n:Int) (k:Value->World->Prop) (alt:Prop) (w:World):Prop:=
 match op with
 |.eql=>IteC (m=n) (k (.bool true) w) (k (.bool false) w)
 |.neq=>IteC (m≠n) (k (.bool true) w) (k (.bool false) w)
 |.lss=>IteC (m<n) (k (.bool true) w) (k (.bool false) w)
 |.leq=>IteC (m<=n) (k (.bool true) w) (k (.bool false) w)
 |.gtr=>IteC (n<m) (k (.bool true) w) (k (.bool false) w)
 |.geq=>IteC (n<=m) (k (.bool true) w) (k (.bool false) w)
 |_=>alt
def binS (P:Program) (op:BinOp) (t:TypeId) (a b:Operand) (x y:Value) (k:Value->World->Prop) (pn:List PanicEntry->World->Prop) (w:World):Prop:=
 match x,y with
 |.int kx m,.int ky n =>
  bif kindEq kx ky then
   match op with
   |.add=>ArS kx (m+n) k w
   |.sub=>ArS kx (m - n) k w
   |.mul=>ArS kx (m*n) k w
   |.quo=>DivS kx m n k w
   |.rem=>RemS kx m n k w
   |op=>cmpS op m n k (SemV P (do eqGuard op t a b (.int kx m) (.int ky n);binOp op t (.int kx m) (.int ky n)) k pn w) w
  else False
 |x,y=>SemV P (do eqGuard op t a b x y;binOp op t x y) k pn w
def unS (P:Program) (op:UnOp) (x:Value) (k:Value->World->Prop) (pn:List PanicEntry->World->Prop) (w:World):Prop:=
 match op,x with
 |.not,.bool b=>k (.bool (!b)) w
 |op,x=>SemV P (Op.unary op x) k pn w
def fnS (P:Program) (f:Value) (args:List Value) (alt:Prop) (k:Value->World->Prop) (pn:List PanicEntry->World->Prop) (w:World):Prop:=
 match f with
 |.func (.func g) first captured=>CallS P g (first.toList++args++captured.toList).toArray k pn w
 |_=>alt
def lk {α:Type}:List (Nat×α)->Nat->α->α
 |[],_,d=>d
 |(k,v)::r,t,d=>bif Nat.beq k t then v else lk r t d
def nth {α:Type}:List α->Nat->Option α
 |[],_=>none
 |x::_,0=>some x
 |_::r,i+1=>nth r i
def lenS (T:Tab) (t:TypeId) (x:Value) (alt:Prop) (k:Value->World->Prop) (w:World):Prop:=
 match x with
 |.slice _ n _=>match lk T.kinds t 0 with|1=>k (.int .i64 n) w|_=>False
 |.string s=>match lk T.kinds t 0 with|2=>k (.int .i64 s.size) w|_=>False
 |_=>alt
def fieldS (T:Tab) (s f:Nat) (x:Value) (alt:Prop) (k:Value->World->Prop) (w:World):Prop:=
 match x with
 |.pointer (some ⟨b,o,none⟩)=>match nth (lk T.offs s []) f with
  |some (some d)=>k (.pointer (some ⟨b,o+d,none⟩)) w
  |_=>alt
 |_=>alt
def pickS (c a b:Value) (k:Value->World->Prop) (w:World):Prop:=
 match c with
 |.bool c=>match c with|true=>k a w|false=>k b w
 |_=>False
def nilS (x:Value) (alt:Prop) (k:Value->World->Prop) (w:World):Prop:=
 match x with
 |.pointer (some a)=>k (.pointer (some a)) w
 |_=>alt
def extS (t:Value) (i:Nat) (k:Value->World->Prop) (w:World):Prop:=
 match t with
 |.tuple vs=>match nth vs.toList i with|some v=>k v w|none=>False
 |_=>False
def evL (F:Nat->Value):List Operand->List Value
 |[]=>[]
 |x::r=>ev F x::evL F r
def evP (F:Nat->Value):List (Nat×Operand)->List (Nat×Value)
 |[]=>[]
 |(i,x)::r=>(i,ev F x)::evP F r
def callS (P:Program) (T:Tab) (o:Oper) (c:Call) (F:Nat->Value) (k:Value->World->Prop) (pn:List PanicEntry->World->Prop) (w:World):Prop:=
 match c.callee with
 |.value f=>fnS P (ev F f) (evL F c.args.toList) (NextS P (execOp (ev F) o) k pn w) k pn w
 |.invoke _ _=>NextS P (execOp (ev F) o) k pn w
 |.builtin b=>match b with
  |.len=>match c.args.toList,c.argTypes.toList with
   |[x],[t]=>lenS T t (ev F x) (NextS P (execOp (ev F) o) k pn w) k w
   |_,_=>False
  |.append=>SemV P (Builtin.append_ c.argTypes o.type (evL F c.args.toList).toArray) k pn w
  |.copy=>SemV P (Builtin.copy_ c.argTypes o.type (evL F c.args.toList).toArray) k pn w
  |.max=>SemV P (Builtin.max_ c.argTypes o.type (evL F c.args.toList).toArray) k pn w
  |.min=>SemV P (Builtin.min_ c.argTypes o.type (evL F c.args.toList).toArray) k pn w
  |.cap=>SemV P (Builtin.cap_ c.argTypes o.type (evL F c.args.toList).toArray) k pn w
  |.delete=>SemV P (Builtin.delete_ c.argTypes o.type (evL F c.args.toList).toArray) k pn w
  |_=>NextS P (execOp (ev F) o) k pn w
def opS (P:Program) (T:Tab) (o:Oper) (F:Nat->Value) (k:Value->World->Prop) (pn:List PanicEntry->World->Prop) (w:World):Prop:=
 match o.op with
 |.move x | .assign x=>k (ev F x) w
 |.pick c a b=>pickS (ev F c) (ev F a) (ev F b) k w
 |.binOp op t x y _=>binS P op t x y (ev F x) (ev F y) k pn w
 |.unOp op _ x=>unS P op (ev F x) k pn w
 |.fieldAddr s x f=>fieldS T s f (ev F x) (SemV P (Instr.fieldAt s (ev F x) f) k pn w) k w
 |.extract t i=>extS (ev F t) i k w
 |.makeFunc fn first captured=>k (.func fn (evL F first.toList).toArray (evL F captured.toList).toArray) w
 |.call c=>callS P T o c F k pn w
 |.build t parts=>SemV P (Instr.build t (evP F parts.toList).toArray) k pn w
 |.buildSlice t len parts=>SemV P (Instr.buildSlice t len (evP F parts.toList).toArray) k pn w
 |.alloc elem=>SemV P (Instr.alloc elem true (.tuple #[])) k pn w
 |.box elem x=>SemV P (Instr.box elem (ev F x)) k pn w
 |.load t a=>SemV P (Instr.loadAt t (ev F a)) k pn w
 |.store t a x=>SemU P (Instr.storeAt t (ev F a) (ev F x)) k pn w
 |.indexAddr t x ix=>SemV P (Instr.indexAt t (ev F x) (ev F ix)) k pn w
 |.index t x ix=>SemV P (Instr.index t (ev F x) (ev F ix)) k pn w
 |.slice t x lo hi mx=>SemV P (Instr.sliceAt t (ev F x) (lo.map (ev F)) (hi.map (ev F)) (mx.map (ev F))) k pn w
 |.makeSlice t l c=>SemV P (Instr.makeSlice t (ev F l) (ev F c)) k pn w
 |.lookup t x ix ok=>SemV P (Instr.lookup t (ev F x) (ev F ix) ok) k pn w
 |.mapUpdate t m kk x=>SemU P (Instr.mapUpdate t (ev F m) (ev F kk) (ev F x)) k pn w
 |.convert src dst x=>SemV P (convert src dst (ev F x)) k pn w
 |.field t x f=>SemV P (Instr.field t (ev F x) f) k pn w
 |.makeInterface t x=>SemV P (Instr.makeInterface t (ev F x)) k pn w
 |.typeAssert x t u ok=>SemV P (Instr.typeAssert (ev F x) t u ok) k pn w
 |.panic x=>SemV P (Instr.panic (ev F x)) k pn w
 |.nilCheck x=>nilS (ev F x) (NextS P (execOp (ev F) o) k pn w) k w
 |.defer _=>False
 |_=>NextS P (execOp (ev F) o) k pn w
def putS (n:Nat) (F:Nat->Value) (d:Option Nat) (v:Value) (k:(Nat->Value)->Prop):Prop:=
 match d with
 |none=>k F
 |some d=>match Nat.blt d n with|true=>k (upd F d v)|false=>False
def defS (T:Tab) (o:Oper) (c:Call) (F:Nat->Value) (k:(Nat->Value)->Prop):Prop:=
 match T.round,o.guard,o.dst,c.callee with
 |false,none,none,.value f=>match ev F f with
  |.func fn first cap=>k (upd F 4294967296 (consD (.agg (.func fn first cap::evL F c.args.toList).toArray) (F 4294967296)))
  |_=>False
 |_,_,_,_=>False
def opsStep (P : Program) (T : Tab) (n : Nat) (all : List Oper) (o : Oper) (ih : (Nat -> Value) -> ((Nat -> Value) -> World -> Prop) -> ((Nat -> Value) -> List PanicEntry -> World -> Prop) -> World -> Prop)
    (F : Nat -> Value) (k : (Nat -> Value) -> World -> Prop) (pn : (Nat -> Value) -> List PanicEntry -> World -> Prop) (w : World) : Prop :=
  match o.op with
  | .defer c => defS T o c F λF' => ih F' k pn w
  | _ => match o.guard with
    | none => opS P T o F (λv w' => putS n F o.dst v λF' => ih F' k pn w') (pn F) w
    | some (j, want) => match nth all j with
      | some g => match g.dst with
        | some d => match F d with
          | .bool b => match Nat.blt d n with
            | true => match want with
              | true => condS b (opS P T o (upd F d (.bool true)) (λv w' => putS n (upd F d (.bool true)) o.dst v λF' => ih F' k pn w') (pn (upd F d (.bool true))) w)
                  (putS n (upd F d (.bool false)) o.dst undef λF' => ih F' k pn w)
              | false => condS b (putS n (upd F d (.bool true)) o.dst undef λF' => ih F' k pn w)
                  (opS P T o (upd F d (.bool false)) (λv w' => putS n (upd F d (.bool false)) o.dst v λF' => ih F' k pn w') (pn (upd F d (.bool false))) w)
            | false => False
          | .tuple _ => putS n F o.dst undef λF' => ih F' k pn w
          | _ => False
        | none => False
      | none => False
def opsS (P:Program) (T:Tab) (n:Nat) (all:List Oper) (l:List Oper):(Nat->Value)->((Nat->Value)->World->Prop)->((Nat->Value)->List PanicEntry->World->Prop)->World->Prop:=
 List.rec (motive:=λ_=>(Nat->Value)->((Nat->Value)->World->Prop)->((Nat->Value)->List PanicEntry->World->Prop)->World->Prop) (λF k _ w=>k F w) (λo _ ih=>opsStep P T n all o ih) l
theorem zC9(P:Program)(T:Tab)(n:Nat)(all:List Oper)(o:Oper)(r:List Oper)(F:Nat->Value)(k:(Nat->Value)->World->Prop)(pn:(Nat->Value)->List PanicEntry->World->Prop)(w:World):
  opsS P T n all (o::r) F k pn w=opsStep P T n all o (opsS P T n all r) F k pn w:=rfl
def S (P:Program) (T:Tab) (n:Nat) (c:Code):KS->(Nat->Value)->World->Prop:=
 Code.rec (motive:=λ_=>KS->(Nat->Value)->World->Prop)
  (λQ F w=>Q.nrm F w)
  (λi ops draw Q F w=>match draw with
   |false=>opsS P T n ops.toList ops.toList F Q.nrm Q.pan w
   |true=>DeepS P T n (.region i ops true) Q F w)
  (λ_ _ iha ihb Q F w=>iha { nrm:=λF' w'=>ihb Q F' w',ext:=Q.ext,ret:=Q.ret,pan:=Q.pan } F w)
  (λc _ _ iha ihb Q F w=>match ev F c with
   |.bool t=>condS t (iha Q F w) (ihb Q F w)
   |_=>False)
  (λi _ ih Q F w=>ih { nrm:=Q.nrm,ext:=λj F' w'=>match Nat.beq j i with|true=>Q.nrm F' w'|false=>Q.ext j F' w',ret:=Q.ret,pan:=Q.pan } F w)
  (λc _ Q F w=>DeepS P T n (.loop c) Q F w)
  (λf ps as b _ _ Q F w=>DeepS P T n (.rangeFunc f ps as b) Q F w)
  (λi Q F w=>Q.ext i F w)
  (λ_ ih Q F w=>ih Q F w)
  (λ_ Q F w=>Q.nrm F w)
  (λl Q F w=>DeepS P T n (.goto l) Q F w)
  (λQ F w=>Q.ret F w)
  (λy Q F w=>DeepS P T n (.refuse y) Q F w) c
section
variable (P:Program) (T:Tab) (n:Nat) (Q:KS) (F:Nat->Value) (w:World)
theorem S_skip:S P T n .skip Q F w=Q.nrm F w:=rfl
theorem zAE(l:Nat):S P T n (.label l) Q F w=Q.nrm F w:=rfl
theorem S_ret:S P T n .ret Q F w=Q.ret F w:=rfl
theorem S_exit(i:Nat):S P T n (.exit i) Q F w=Q.ext i F w:=rfl
theorem S_seq(a b:Code):S P T n (.seq a b) Q F w=S P T n a { Q with nrm:=λF' w'=>S P T n b Q F' w' } F w:=rfl
theorem S_cond(c:Operand)(a b:Code):S P T n (.cond c a b) Q F w=match ev F c with
  |.bool t=>condS t (S P T n a Q F w) (S P T n b Q F w)
  |_=>False:=rfl
theorem zAD(i:Nat)(c:Code):S P T n (.block i c) Q F w=S P T n c { Q with ext:=λj F' w'=>match Nat.beq j i with|true=>Q.nrm F' w'|false=>Q.ext j F' w' } F w:=rfl
theorem zAF(c:Code):S P T n (.scope c) Q F w=S P T n c Q F w:=rfl
theorem zAu(i:Nat)(ops:Array Oper):S P T n (.region i ops false) Q F w=opsS P T n ops.toList ops.toList F Q.nrm Q.pan w:=rfl
theorem S_draw(i:Nat)(ops:Array Oper):S P T n (.region i ops true) Q F w=DeepS P T n (.region i ops true) Q F w:=rfl
theorem S_loop(c:Code):S P T n (.loop c) Q F w=DeepS P T n (.loop c) Q F w:=rfl
theorem zAj(f:Operand)(ps:Array Tmp)(a b:Code):S P T n (.rangeFunc f ps a b) Q F w=DeepS P T n (.rangeFunc f ps a b) Q F w:=rfl
theorem S_goto(l:Nat):S P T n (.goto l) Q F w=DeepS P T n (.goto l) Q F w:=rfl
theorem zAt(y:String):S P T n (.refuse y) Q F w=DeepS P T n (.refuse y) Q F w:=rfl
end
end Go.W
set_option linter.unusedSimpArgs false
namespace Go.W
open Go
variable {B N i j k m n:Nat} {D:Nat -> Prop} {P:Program} {a a':Option Addr} {u u' w w':World}
def upR (P:Program) (k:Value->World->Prop) (pn:List PanicEntry->World->Prop):Result Next->Prop
 |.ok (.value v) w'=>k v w'
 |.ok .skip w'=>k undef w'
 |.ok (.enter f args) w'=>Calls P f args w' (RetP k pn)
 |.ok (.round l f tmps assign body) w'=>RoundIn Fence.wide 0 P l f tmps assign body w' (RetP k pn)
 |.halt (.panic v) w'=>pn [{ v,recovered:=false }] w'
 |_=>False
theorem zDQ(r:Option Nat){f:FuncId}{args:Array Value}{R:Ending->World->Prop}(h:Calls P f args w R):CallsIn (fw r) n P f args w R:=callsIn_wide (n:=n).2 h
theorem zOf(r:Option Nat)(n:Nat):(fw r).room n:=λ_ h=>by simp [fw,Fence.wide] at h
theorem zKs{md:Option Nat}{o:Oper}{a:Act}{next:Act->World->Prop}{Q:Exit->Act->World->Prop}{k:Value->World->Prop}
  {pn:List PanicEntry->World->Prop}{r:Result Next}(h:upR P k pn r)(hk:∀v w,k v w->next (a.put o.dst v) w)
  (hp:∀c w,pn c w->Q (.panic c) a w):o.uponIn (fw md) 0 P a next Q r:=by
 cases r with
 |ok x w' =>
  cases x <;> simp only [upR] at h <;> simp only [Oper.uponIn]
  case value v=>exact hk _ _ h
  case skip=>exact hk _ _ h
  case enter f args =>
   refine⟨λh=>by simp [fw,Fence.wide] at h,zDQ md (h.mono ?_)⟩
   intro e w'' he
   cases e with
   |returned v=>exact hk _ _ he
   |panicked c=>exact hp _ _ he
   |outgrown=>exact he.elim
  case round l f tmps assign body =>
   refine⟨λh=>by simp [fw,Fence.wide] at h,?_⟩
   have h:RoundIn (fw md) 0 P l f tmps assign body w' (RetP k pn):=h
   refine h.mono ?_
   intro e w'' he
   cases e with
   |returned v=>exact hk _ _ he
   |panicked c=>exact hp _ _ he
   |outgrown=>exact he.elim
 |halt x w' =>
  cases x <;> simp only [upR] at h <;> simp only [Oper.uponIn]
  exact hp _ _ h
section
variable {P:Program} {k:Value->World->Prop} {pn:List PanicEntry->World->Prop} {w:World}
theorem upR_v{s:Sem Value}(h:SemV P s k pn w):upR P k pn ((do let x <-s;pure (Next.value x):Sem Next).run P w):=by
 rw [zCC] at h
 rw [Sem.run_bind]
 cases hr:s.run P w with
 |ok v w'=>simp only [hr] at h;simpa [upR] using h
 |halt x w'=>simp only [hr] at h;cases x <;> simp_all [upR]
theorem upR_u{s:Sem Unit}(h:SemU P s k pn w):upR P k pn ((do s;pure Next.skip:Sem Next).run P w):=by
 rw [zDM] at h
 rw [Sem.run_bind]
 cases hr:s.run P w with
 |ok v w'=>simp only [hr] at h;simpa [upR] using h
 |halt x w'=>simp only [hr] at h;cases x <;> simp_all [upR]
theorem zGq{s:Sem Next}(h:NextS P s k pn w):upR P k pn (s.run P w):=by
 rw [zAR] at h
 cases hr:s.run P w with
 |ok v w' =>
  simp only [hr] at h
  cases v <;> simp only [upR] <;> simp only at h <;> try exact h
  ·rw [zA8] at h;exact h.2
  ·exact h.out
 |halt x w'=>simp only [hr] at h;cases x <;> simp_all [upR]
theorem zHX:∀{a b:IntKind},kindEq a b=true->a=b:=by
 intro a b h;cases a <;> cases b <;> simp_all [kindEq]
theorem evL_eq(F:Nat->Value)(l:List Operand):evL F l=l.map (ev F):=by
 induction l with
 |nil=>rfl
 |cons x r ih=>simp [evL,ih]
theorem zAY(F:Nat->Value)(l:Array Operand):(evL F l.toList).toArray=l.map (ev F):=by
 rw [evL_eq,<-Array.toList_map,Array.toArray_toList]
theorem zKL(F:Nat->Value)(l:Array (Nat×Operand)):(evP F l.toList).toArray=l.map (λ(i,x)=>(i,ev F x)):=by
 have:∀m:List (Nat×Operand),evP F m=m.map (λ(i,x)=>(i,ev F x)):=by
  intro m;induction m with
  |nil=>rfl
  |cons x r ih=>obtain⟨i,y⟩:=x;simp [evP,ih]
 rw [this,<-Array.toList_map,Array.toArray_toList]
theorem nth_eq{α:Type}(l:List α)(i:Nat):nth l i=l[i]?:=by
 induction l generalizing i with
 |nil=>simp [nth]
 |cons x r ih=>cases i <;> simp [nth,ih]
theorem run_v(s:Sem Value)(w:World):(do let x <-s;pure (Next.value x):Sem Next).run P w=(s.run P w).andThen λv w'=>.ok (.value v) w':=by
 rw [Sem.run_bind];rfl
theorem zFF(op:BinOp)(t:TypeId)(x y:Operand)(kx ky:IntKind)(m n:Int)(w:World):
  (eqGuard op t x y (.int kx m) (.int ky n)).run P w=.ok () w:=by
 cases op <;> rfl
theorem zOD{op:BinOp}{t:TypeId}{x y:Operand}{a b:Value}(h:binS P op t x y a b k pn w):
  upR P k pn ((do let v <-(do eqGuard op t x y a b;binOp op t a b:Sem Value);pure (Next.value v):Sem Next).run P w):=by
 by_cases hi:(∃kx m,a=.int kx m)/\(∃ky n,b=.int ky n)
 ·obtain⟨⟨kx,m,rfl⟩,⟨ky,n,rfl⟩⟩:=hi
  simp only [binS] at h
  cases hk:kindEq kx ky with
  |false=>simp only [hk,cond_false] at h
  |true =>
   simp only [hk,cond_true] at h
   obtain rfl:=zHX hk
   have key:∀v,(binOp op t (.int kx m) (.int kx n)).run P w=.ok v w->k v w->upR P k pn ((do let v <-(do eqGuard op t x y (.int kx m) (.int kx n);binOp op t (.int kx m) (.int kx n):Sem Value);pure (Next.value v):Sem Next).run P w):=by
    intro v hv hkv
    rw [run_v,Sem.run_bind,zFF]
    simp only [Result.andThen_ok,hv,upR];exact hkv
   cases op <;> simp only [cmpS,zDj,zDK,zCB] at h <;> first
    |exact upR_v h
    |(refine key _ ?_ h;simp [binOp,Op.intArith];done)
    |(obtain⟨h0,h1⟩:=h;refine key _ ?_ h1;simp [binOp,Op.intDiv,h0];done)
    |(rcases Classical.em _ with hp|hp;(refine key (.bool true) ?_ (h.t hp);simp [binOp,Op.intCmp];first|exact hp|omega);(refine key (.bool false) ?_ (h.f hp);simp [binOp,Op.intCmp];first|exact hp|omega))
 ·have:binS P op t x y a b k pn w=SemV P (do eqGuard op t x y a b;binOp op t a b) k pn w:=by
   unfold binS
   split
   ·rename_i kx m ky n;exact absurd ⟨⟨kx,m,rfl⟩,⟨ky,n,rfl⟩⟩ hi
   ·rfl
  rw [this] at h
  exact upR_v h
end
def Tab.chkK (P:Program) (e:Nat×Nat):Bool:=
 match e.2 with
 |1=>match P.underlying e.1 with|some (.slice _)=>true|_=>false
 |2=>match P.underlying e.1 with|some .string=>true|_=>false
 |_=>true
def Tab.chkF (P:Program) (fs:List Field):List (Option Nat)->Bool
 |[]=>true
 |o::r=>match fs with
  |[]=>false
  |f::fs'=>(match o with
   |none=>true
   |some d=>Nat.beq f.offset d && (match P.info? f.type with|some i=>!Nat.beq i.size 0|none=>false)) && Tab.chkF P fs' r
def Tab.chkO (P:Program) (e:Nat×List (Option Nat)):Bool:=
 match P.underlying e.1 with
 |some (.struct fs)=>Tab.chkF P fs.toList e.2
 |_=>false
def Tab.ok (P:Program) (T:Tab):Bool:=T.kinds.all (Tab.chkK P) && T.offs.all (Tab.chkO P)
theorem lk_mem{α : Type}(l : List (Nat × α))(t : Nat)(d : α) : lk l t d = d \/ (t, lk l t d) ∈ l := by
  induction l with
  | nil => exact .inl rfl
  | cons x r ih =>
    obtain ⟨j, v⟩ := x
    unfold lk
    cases h : Nat.beq j t with
    | true => rw [Nat.eq_of_beq_eq_true h]; right; simp
    | false => rcases ih with h' | h'
               · left; simpa using h'
               · right; simp only [cond_false]; exact List.mem_cons_of_mem _ h'
theorem Tab.slice{T:Tab}(hT:T.ok P=true){t:Nat}(h:lk T.kinds t 0=1):∃e,P.underlying t=some (.slice e):=by
 simp only [Tab.ok,Bool.and_eq_true,List.all_eq_true] at hT
 rcases lk_mem T.kinds t 0 with h'|h'
 ·rw [h] at h';cases h'
 ·rw [h] at h'
  have:=hT.1 _ h'
  simp only [Tab.chkK] at this
  split at this
  ·exact⟨_,‹_›⟩
  ·cases this
theorem Tab.string{T:Tab}(hT:T.ok P=true){t:Nat}(h:lk T.kinds t 0=2):P.underlying t=some .string:=by
 simp only [Tab.ok,Bool.and_eq_true,List.all_eq_true] at hT
 rcases lk_mem T.kinds t 0 with h'|h'
 ·rw [h] at h';cases h'
 ·rw [h] at h'
  have:=hT.1 _ h'
  simp only [Tab.chkK] at this
  split at this
  ·assumption
  ·cases this
theorem Tab.chkF_get:∀(fs:List Field) (l:List (Option Nat)) (i d:Nat),Tab.chkF P fs l=true->l[i]? = some (some d) ->
  ∃f,fs[i]? = some f/\f.offset=d/\∃j,P.info? f.type=some j/\j.size≠0
 |_,[],i,d,_,h=>by simp at h
 |[],o::r,i,d,h,_=>by simp [Tab.chkF] at h
 |f::fs,o::r,0,d,h,h'=>by
  simp only [List.getElem?_cons_zero,Option.some.injEq] at h'
  subst h'
  simp only [Tab.chkF,Bool.and_eq_true] at h
  obtain⟨⟨h1,h2⟩,_⟩:=h
  refine⟨f,rfl,Nat.eq_of_beq_eq_true h1,?_⟩
  split at h2
  ·rename_i j hj;exact⟨j,hj,by intro h0;simp [h0] at h2⟩
  ·cases h2
 |f::fs,o::r,i+1,d,h,h'=>by
  simp only [Tab.chkF,Bool.and_eq_true] at h
  simpa using Tab.chkF_get fs r i d h.2 (by simpa using h')
theorem Tab.field{T:Tab}(hT:T.ok P=true){s f d:Nat}(h:nth (lk T.offs s []) f=some (some d)):
  ∃fs fd,P.underlying s=some (.struct fs)/\fs[f]? = some fd/\fd.offset=d/\∃j,P.info? fd.type=some j/\j.size≠0:=by
 simp only [Tab.ok,Bool.and_eq_true,List.all_eq_true] at hT
 rw [nth_eq] at h
 rcases lk_mem T.offs s [] with h'|h'
 ·rw [h'] at h;simp at h
 ·have:=hT.2 _ h'
  simp only [Tab.chkO] at this
  split at this
  ·rename_i fs hfs
   obtain⟨fd,h1,h2,h3⟩:=Tab.chkF_get _ _ _ _ this h
   exact⟨fs,fd,hfs,by simpa using h1,h2,h3⟩
  ·cases this
section
variable {P:Program} {T:Tab} {k:Value->World->Prop} {pn:List PanicEntry->World->Prop} {w:World}
theorem zIa(hT:T.ok P=true){s f d b o:Nat}(h:nth (lk T.offs s []) f=some (some d))(w:World):
  (Instr.fieldAt s (.pointer (some ⟨b,o,none⟩)) f).run P w=.ok (.pointer (some ⟨b,o+d,none⟩)) w:=by
 obtain⟨fs,fd,h1,h2,h3,j,h4,h5⟩:=Tab.field hT h
 have:(⟨b,o,none⟩:Addr).add d=⟨b,o+d,none⟩:=by
  unfold Addr.add;split <;> simp_all
 simp [Instr.fieldAt,underlying,h1,h2,Instr.sureAddr,fieldPlace,sizeOf,typeInfo,h4,h5,h3,this]
theorem zEw{t ty:TypeId}{e:TypeId}(h:P.underlying t=some (.slice e))(a:Option Addr)(n c:Nat)(w:World):
  (Builtin.len_ #[t] ty #[.slice a n c]).run P w=.ok (.int .i64 n) w:=by
 simp [Builtin.len_,underlying,h,goInt]
theorem zDz{t ty:TypeId}(h:P.underlying t=some .string)(s:ByteArray)(w:World):
  (Builtin.len_ #[t] ty #[.string s]).run P w=.ok (.int .i64 s.size) w:=by
 simp [Builtin.len_,underlying,h,goInt]
theorem zAB{f:FuncId}{args:Array Value}(h:callable P f)(w:World):(callFunc f args).run P w=.ok (.enter f args) w:=by
 obtain⟨fn,h1,h2,h3⟩:=h
 have h4:fn.body≠none:=by intro hb;simp [hb] at h2
 have h5 : fn.name ≠ "runtime.NumGoroutine" := by simpa using h3
 simp [callFunc,h1,h4,h5]
theorem zN5(hT : T.ok P = true){o : Oper}{F : Nat -> Value}(h : opS P T o F k pn w) : upR P k pn ((execOp (ev F) o).run P w) := by
  unfold opS at h
  unfold execOp
  split at h <;> rename_i ho <;> simp only [ho]
  · simpa [upR] using h
  · simpa [upR] using h
  · unfold pickS at h
    split at h
    · rename_i c hc
      simp only [hc, asBool]
      cases c <;> simpa [upR] using h
    · exact h.elim
  · exact zOD h
  · unfold unS at h
    split at h
    · rename_i b hb
      simpa [hb, Op.unary, upR] using h
    · exact upR_v h
  · unfold fieldS at h
    split at h
    · rename_i b o hb
      split at h
      · rename_i d hd
        rw [run_v, hb, zIa hT hd]
        simpa [upR] using h
      · exact upR_v (by rw [hb] at h; rw [hb]; exact h)
    · exact upR_v h
  · rename_i t i
    unfold extS at h
    split at h
    · rename_i vs hv
      rw [nth_eq] at h
      split at h
      · rename_i v hvv
        have : vs[i]? = some v := by simpa using hvv
        simp only [hv, Instr.extract, this]
        simpa [upR] using h
      · exact h.elim
    · exact h.elim
  · rw [zAY, zAY] at h
    simpa [Instr.makeFunc, upR] using h
  · rename_i c
    have alt : NextS P (execOp (ev F) o) k pn w -> upR P k pn ((do let d <- resolve (ev F) c o.type; invoke d.target d.args : Sem Next).run P w) := by
      intro h
      have := zGq h
      simpa [execOp, ho] using this
    have bi : ∀ b s, c.callee = .builtin b -> (∀ consts, builtin b c.argTypes o.type consts (c.args.map (ev F)) = (do let x <- s; pure (Next.value x))) ->
        upR P k pn ((do let x <- s; pure (Next.value x) : Sem Next).run P w) -> upR P k pn ((do let d <- resolve (ev F) c o.type; invoke d.target d.args : Sem Next).run P w) := by
      intro b s hc hb h
      have : (do let d <- resolve (ev F) c o.type; invoke d.target d.args : Sem Next) = (do let x <- s; pure (Next.value x)) := by
        simp only [resolve, hc, pure_bind, invoke]
        exact hb _
      rw [this]; exact h
    unfold callS at h
    split at h
    · rename_i f hf
      unfold fnS at h
      split at h
      · rename_i g first captured hg
        rw [zA8] at h
        have e : (do let d <- resolve (ev F) c o.type; invoke d.target d.args : Sem Next) = callFunc g (first ++ c.args.map (ev F) ++ captured) := by
          simp only [resolve, hf, Deferred.ofValue, hg, pure_bind, invoke]
        rw [e, zAB h.1]
        have e2 : (first.toList ++ evL F c.args.toList ++ captured.toList).toArray = first ++ c.args.map (ev F) ++ captured := by
          rw [evL_eq]; simp
        rw [e2] at h
        exact h.2
      · exact alt h
    · exact alt h
    · rename_i b hb
      split at h
      · split at h
        · rename_i x t hx ht
          have hx' : c.args = #[x] := by rw [<- Array.toArray_toList (xs := c.args), hx]
          have ht' : c.argTypes = #[t] := by rw [<- Array.toArray_toList (xs := c.argTypes), ht]
          unfold lenS at h
          split at h
          · rename_i a n cc hv
            split at h
            · rename_i h1
              obtain ⟨e, he⟩ := Tab.slice hT h1
              refine bi _ (Builtin.len_ c.argTypes o.type (c.args.map (ev F))) hb (λ_ => rfl) ?_
              rw [run_v, hx', ht']; simp only [List.map_toArray, List.map_cons, List.map_nil, hv, zEw he]
              exact h
            · exact h.elim
          · rename_i s hv
            split at h
            · rename_i h1
              have he := Tab.string hT h1
              refine bi _ (Builtin.len_ c.argTypes o.type (c.args.map (ev F))) hb (λ_ => rfl) ?_
              rw [run_v, hx', ht']; simp only [List.map_toArray, List.map_cons, List.map_nil, hv, zDz he]
              exact h
            · exact h.elim
          · exact alt h
        · exact h.elim
      all_goals first
        | exact alt h
        | (rw [zAY] at h; exact bi _ _ hb (λ_ => rfl) (upR_v h))
  all_goals first
    | exact upR_v h
    | (rw [zKL] at h; exact upR_v h)
    | exact upR_u h
    | exact h.elim
    | (unfold nilS at h
       split at h
       · rename_i a ha
         simp only [ha]
         simpa [upR] using h
       · have := zGq h
         unfold execOp at this
         simpa only [ho] using this)
    | (have := zGq h; unfold execOp at this; simpa only using this)
end
theorem zEk(F:Nat->Value)(d:Nat):upd F d (F d)=F:=by
 funext t
 unfold upd
 cases h:Nat.beq t d with
 |true=>simp [Nat.eq_of_beq_eq_true h]
 |false=>simp
section
variable {P:Program} {T:Tab} {n:Nat}
theorem Rel.eval{F:Nat->Value}{a:Act}(h:Rel n F a):a.eval=ev F:=by
 funext x
 cases x <;> simp only [Act.eval,ev]
 rename_i t
 split
 ·rename_i hb
  have ht:=Nat.eq_of_beq_eq_true hb
  have:a.tmps[t]? = none:=Array.getElem?_eq_none (by rw [h.size,ht];exact h.le)
  simp [Array.getD_eq_getD_getElem?,this]
 ·rename_i hb
  exact h.get t λe=>by subst e;simp at hb
theorem Rel.put{F:Nat->Value}{a:Act}(h:Rel n F a){d:Option Nat}{v:Value}{k:(Nat->Value)->Prop}(hk:putS n F d v k):
  ∃F',Rel n F' (a.put d v)/\agree (isD d) F F'/\k F':=by
 cases d with
 |none=>exact⟨F,h,λ_ _=>rfl,hk⟩
 |some d =>
  simp only [putS] at hk
  split at hk
  ·rename_i hb
   have hlt:d<n:=by simpa [Nat.blt_eq] using hb
   refine⟨upd F d v,⟨?_,h.le,?_,?_⟩,?_,hk⟩
   ·simp [Act.put,h.size]
   ·have hne:Nat.beq 4294967296 d=false:=by
     cases hq:Nat.beq 4294967296 d with
     |false=>rfl
     |true=>have:=Nat.eq_of_beq_eq_true hq;have:=h.le;omega
    show a.defers=decD (upd F d v 4294967296)
    unfold upd;rw [hne];exact h.defers
   ·intro t htk
    have hs:=h.size
    have:=h.get t htk
    unfold upd
    simp only [Act.put,Array.getD_eq_getD_getElem?,Array.getElem?_setIfInBounds] at this ⊢
    cases hb:Nat.beq t d with
    |true=>rw [Nat.eq_of_beq_eq_true hb];simp [hs,hlt]
    |false =>
     have:d≠t:=λe=>by rw [e] at hb;simp at hb
     simpa [this] using h.get t htk
   ·intro t ht
    simp only [isD] at ht
    unfold upd
    rw [ht];rfl
  ·exact hk.elim
theorem agree.trans{ws ws':Nat->Bool}{A B C:Nat->Value}(h:agree ws A B)(h':agree ws' B C):agree (λt=>ws t || ws' t) A C:=by
 intro t ht
 simp only [Bool.or_eq_false_iff] at ht
 rw [h' t ht.2,h t ht.1]
theorem agree.mono{ws ws':Nat->Bool}{A B:Nat->Value}(h:agree ws A B)(hw:∀t,ws' t=false->ws t=false):agree ws' A B:=
 λt ht=>h t (hw t ht)
def LQ (n:Nat) (F0:Nat->Value) (ws:Nat->Bool) (k:(Nat->Value)->World->Prop) (pn:(Nat->Value)->List PanicEntry->World->Prop):Exit->Act->World->Prop:=λe a w =>
 match e with
 |.normal=>∃F',Rel n F' a/\agree ws F0 F'/\k F' w
 |.panic c=>∃F',Rel n F' a/\agree ws F0 F'/\pn F' c w
 |_=>False
theorem zKd{o:Oper}{F:Nat->Value}{k:Value->World->Prop}{pn:List PanicEntry->World->Prop}(h:opS P T o F k pn w):∀c,o.op≠.defer c:=by
 intro c hc
 unfold opS at h
 rw [hc] at h
 exact h
theorem opS_wp(hT:T.ok P=true){md:Option Nat}{o:Oper}{F:Nat->Value}{k:Value->World->Prop}{pn:List PanicEntry->World->Prop}(h:opS P T o F k pn w)
  {a:Act}(ha:Rel n F a){next:Act->World->Prop}{Q:Exit->Act->World->Prop}
  (hk:∀v w,k v w->next (a.put o.dst v) w)(hp:∀c w,pn c w->Q (.panic c) a w):o.wpIn (fw md) 0 P a w next Q:=by
 refine⟨λ_ _=>trivial,?_⟩
 rw [Oper.semAt_eq _ _ _ (zKd h),ha.eval]
 exact zKs (zN5 hT h) hk hp
theorem zMN(fn:Fn)(first cap:Array Value)(args:List Value):decD1 (.agg (.func fn first cap::args).toArray)=some { target:=.fn fn cap,args:=first++args.toArray }:=rfl
theorem zKY(hT : T.ok P = true){md : Option Nat}(hmd : md.isSome = T.round)(all : Array Oper)(F0 : Nat -> Value)(k : (Nat -> Value) -> World -> Prop)(pn : (Nat -> Value) -> List PanicEntry -> World -> Prop) :
    ∀ (l : List Oper) (ws0 : Nat -> Bool) (F : Nat -> Value) (w : World) (a : Act), Rel n F a -> agree ws0 F0 F -> opsS P T n all.toList l F k pn w ->
      wpListIn (fw md) 0 P all (LQ n F0 (λt => ws0 t || wrL l t) k pn) l a w := by
  intro l
  induction l with
  | nil =>
    intro ws0 F w a ha h0 h
    exact ⟨F, ha, h0.mono (by simp [wrL]), h⟩
  | cons o rest ih =>
    intro ws0 F w a ha h0 h
    have wide : ∀ {G : Nat -> Value}, agree ws0 F0 G -> agree (λt => ws0 t || wrL (o :: rest) t) F0 G := λh => h.mono (by intro t ht; simp only [Bool.or_eq_false_iff] at ht; exact ht.1)
    have step : ∀ {G : Nat -> Value} {v : Value} {w' : World}, Rel n G a -> agree ws0 F0 G -> putS n G o.dst v (λF' => opsS P T n all.toList rest F' k pn w') ->
        wpListIn (fw md) 0 P all (LQ n F0 (λt => ws0 t || wrL (o :: rest) t) k pn) rest (a.put o.dst v) w' := by
      intro G v w' hG h0G hp
      obtain ⟨F', h1, h2, h3⟩ := hG.put hp
      have := ih (λt => ws0 t || wrO o t) F' w' (a.put o.dst v) h1 ((h0G.trans h2).mono (by intro t ht; simp only [wrO, Bool.or_eq_false_iff] at ht ⊢; exact ⟨ht.1, ht.2.1⟩)) h3
      have e : (λt => (ws0 t || wrO o t) || wrL rest t) = (λt => ws0 t || wrL (o :: rest) t) := by
        funext t; simp [wrL, Bool.or_assoc]
      rw [e] at this
      exact this
    have run : ∀ {G : Nat -> Value}, Rel n G a -> agree ws0 F0 G -> opS P T o G (λv w' => putS n G o.dst v λF' => opsS P T n all.toList rest F' k pn w') (pn G) w ->
        ∀ K : Act -> World -> Prop, (∀ a w, wpListIn (fw md) 0 P all (LQ n F0 (λt => ws0 t || wrL (o :: rest) t) k pn) rest a w -> K a w) -> o.wpIn (fw md) 0 P a w K (LQ n F0 (λt => ws0 t || wrL (o :: rest) t) k pn) := by
      intro G hG h0G hop K hK
      exact opS_wp hT hop hG (λv w' hv => hK _ _ (step hG h0G hv)) λc w' hc => ⟨G, hG, wide h0G, hc⟩
    refine wpListIn_step λK hK => ?_
    by_cases hdef : ∃ c, o.op = .defer c
    · obtain ⟨c, hc⟩ := hdef
      simp only [zC9, opsStep, hc, defS] at h
      split at h
      case h_2 => exact h.elim
      rename_i f hr hg hd hcal
      split at h
      case h_2 => exact h.elim
      rename_i fn first cap hf
      have hmn : md = none := by cases md with | none => rfl | some _ => rw [hr] at hmd; cases hmd
      subst hmn
      simp only [Region.wanted, hg, if_true]
      refine ⟨λ_ _ => trivial, ?_⟩
      have he : (Oper.semAt none a.eval o).run P w = .ok (.defer { target := .fn fn cap, args := first ++ c.args.map (ev F) }) w := by
        rw [Oper.semAt_none, ha.eval]
        unfold execOp
        simp only [hc, resolve, hcal, hf]
        rfl
      show Oper.uponIn (fw none) 0 P o a K _ ((Oper.semAt none a.eval o).run P w)
      rw [he]
      simp only [Oper.uponIn, hd]
      refine hK _ _ ?_
      let v : Value := .agg (.func fn first cap :: evL F c.args.toList).toArray
      have hdec : decD (consD v (F 4294967296)) = { target := .fn fn cap, args := first ++ c.args.map (ev F) } :: decD (F 4294967296) := by
        rw [<- zAY]; exact zCZ v _ _ (zMN fn first cap _)
      have hrel : Rel n (upd F 4294967296 (consD v (F 4294967296))) ({ a with defers := { target := .fn fn cap, args := first ++ c.args.map (ev F) } :: a.defers }.put none undef) := by
        refine ⟨ha.size, ha.le, ?_, λt ht => ?_⟩
        · show _ :: a.defers = decD (upd F 4294967296 (consD v (F 4294967296)) 4294967296)
          unfold upd
          rw [show Nat.beq 4294967296 4294967296 = true from rfl, cond_true, hdec, ha.defers]
        · have hb : Nat.beq t 4294967296 = false := by
            cases hq : Nat.beq t 4294967296 with
            | false => rfl
            | true => exact absurd (Nat.eq_of_beq_eq_true hq) ht
          unfold upd; rw [hb]; exact ha.get t ht
      have hag : agree (λt => ws0 t || wrO o t) F0 (upd F 4294967296 (consD v (F 4294967296))) := by
        intro t ht
        simp only [wrO, hc, isDef, Bool.true_and, Bool.or_eq_false_iff] at ht
        unfold upd; rw [ht.2.2]; exact h0 t ht.1
      have := ih (λt => ws0 t || wrO o t) _ w _ hrel hag h
      have e : (λt => (ws0 t || wrO o t) || wrL rest t) = (λt => ws0 t || wrL (o :: rest) t) := by
        funext t; simp [wrL, Bool.or_assoc]
      rw [e] at this
      exact this
    have hstep : opsStep P T n all.toList o (opsS P T n all.toList rest) F k pn w = (match o.guard with
      | none => opS P T o F (λv w' => putS n F o.dst v λF' => opsS P T n all.toList rest F' k pn w') (pn F) w
      | some (j, want) => match nth all.toList j with
        | some g => match g.dst with
          | some d => match F d with
            | .bool b => match Nat.blt d n with
              | true => match want with
                | true => condS b (opS P T o (upd F d (.bool true)) (λv w' => putS n (upd F d (.bool true)) o.dst v λF' => opsS P T n all.toList rest F' k pn w') (pn (upd F d (.bool true))) w)
                    (putS n (upd F d (.bool false)) o.dst undef λF' => opsS P T n all.toList rest F' k pn w)
                | false => condS b (putS n (upd F d (.bool true)) o.dst undef λF' => opsS P T n all.toList rest F' k pn w)
                    (opS P T o (upd F d (.bool false)) (λv w' => putS n (upd F d (.bool false)) o.dst v λF' => opsS P T n all.toList rest F' k pn w') (pn (upd F d (.bool false))) w)
              | false => False
            | .tuple _ => putS n F o.dst undef λF' => opsS P T n all.toList rest F' k pn w
            | _ => False
          | none => False
        | none => False) := by
      unfold opsStep
      cases ho : o.op <;> first | rfl | exact absurd ⟨_, ho⟩ hdef
    rw [zC9, hstep] at h
    clear hstep
    cases hg : o.guard with
    | none =>
      simp only [hg] at h
      simp only [Region.wanted, hg, if_true]
      exact run ha h0 h K hK
    | some jw =>
      obtain ⟨j, want⟩ := jw
      simp only [hg] at h
      rw [nth_eq] at h
      split at h
      case h_2 => exact h.elim
      case h_1 g hgj =>
      split at h
      case h_2 => exact h.elim
      case h_1 d hd =>
      have hy : d < n -> yielded all a.tmps j = match F d with | .bool b => some b | _ => none := by
        intro hdn
        have hgj' : all[j]? = some g := by simpa using hgj
        have := ha.get d (Nat.ne_of_lt (Nat.lt_of_lt_of_le hdn ha.le))
        have hs := ha.size
        simp only [yielded, hgj', Option.bind_some, hd]
        have e : a.tmps[d]? = some (F d) := by
          rw [<- this, Array.getD_eq_getD_getElem?]
          rw [Array.getElem?_eq_getElem (by rw [hs]; exact hdn)]; rfl
        rw [e]
        cases F d <;> simp
      split at h
      · rename_i b hb
        have hF : upd F d (.bool b) = F := by rw [<- hb]; exact zEk F d
        split at h
        case h_2 => exact h.elim
        case h_1 hdn =>
        have hdn' : d < n := by simpa [Nat.blt_eq] using hdn
        have hy := hy hdn'
        simp only [hb] at hy
        cases want <;> cases b <;> simp only [condS, hF] at h <;> simp only [Region.wanted, hg, hy] <;> simp <;> first
          | exact run ha h0 h K hK
          | exact ⟨λ_ _ => trivial, hK _ _ (step ha h0 h)⟩
      · rename_i vs hb
        have hy : yielded all a.tmps j = none := by
          by_cases hdn : d < n
          · rw [hy hdn]; simp only [hb]
          · have hgj' : all[j]? = some g := by simpa using hgj
            have e : a.tmps[d]? = none := Array.getElem?_eq_none (by rw [ha.size]; exact Nat.le_of_not_lt hdn)
            simp only [yielded, hgj', Option.bind_some, hd, e]
        simp only [Region.wanted, hg, hy]
        simp
        exact ⟨λ_ _ => trivial, hK _ _ (step ha h0 h)⟩
      · exact h.elim
theorem zC7{Q Q':KS}{F F':Nat->Value}{ws ws':Nat->Bool}(hn:∀G w,Rel n G=Rel n G->agree ws F G->Q.nrm G w->agree ws' F' G/\Q'.nrm G w)
  (he:∀i G w,agree ws F G->Q.ext i G w->agree ws' F' G/\Q'.ext i G w)(hr:∀G w,agree ws F G->Q.ret G w->agree ws' F' G/\Q'.ret G w)
  (hp:∀G c w,agree ws F G->Q.pan G c w->agree ws' F' G/\Q'.pan G c w):∀e a w,Q.lift n F ws e a w->Q'.lift n F' ws' e a w:=by
 intro e a w h
 cases e <;> simp only [KS.lift] at h ⊢
 ·obtain⟨G,h1,h2,h3⟩:=h;exact⟨G,h1,hn _ _ rfl h2 h3⟩
 ·obtain⟨G,h1,h2,h3⟩:=h;exact⟨G,h1,he _ _ _ h2 h3⟩
 ·obtain⟨G,h1,h2,h3⟩:=h;exact⟨G,h1,hr _ _ h2 h3⟩
 ·obtain⟨G,h1,h2,h3⟩:=h;exact⟨G,h1,hp _ _ _ h2 h3⟩
theorem zA6{b:Frame}{a:Act}{k:List Item}{cs:List Frame}{c:Code}:step P (lone (b.atR a (.code (.scope c)::k)) cs w)=.next (lone (b.atR a (.code c::.inScope c::k)) cs w):=
 step_lone_go (by simp [stepG,stepG.exec,Frame.atR])
theorem zIz{b:Frame}{a:Act}{k:List Item}{cs:List Frame}{c:Code}:step P (lone (b.atR a (.inScope c::k)) cs w)=.next (lone (b.atR a k) cs w):=
 step_lone_go (by simp [stepG,stepG.exec,Frame.atR])
theorem zBd(P:Program)(r:Option Nat)(m:Machine):m.fenced P (fw r):=fenced_wide P m
theorem zIE{r:Option Nat}{c:Code}{Q:Exit->Act->World->Prop}{a:Act}(h:c.wpIn (fw r) 0 P (Exit.noGoto Q) a w):(Code.scope c).wpIn (fw r) 0 P Q a w:=by
 intro b k cs hro hb hr
 obtain⟨e,a₁,w₁,hq,harr⟩:=h b (.inScope c::k) cs hro hb hr
 cases e with
 |normal=>exact⟨.normal,a₁,w₁,hq,.head (zBd P r _) zA6 (StepsIn.trans harr (.one (zBd P r _) zIz))⟩
 |exit id =>
  exact⟨.exit id,a₁,w₁,hq,λk' hk=>.head (zBd P r _) zA6 (harr.1 k' (by simp [exitTo,hk])),
   λhr' hk=>let ⟨k₁,h1,h2⟩:=harr.2 hr' (by simp [exitTo,hk]);⟨k₁,h1,.head (zBd P r _) zA6 h2⟩⟩
 |goto l=>exact hq.elim
 |ret=>exact⟨_,a₁,w₁,hq,.of_steps (.one (zBd P r _) zA6) harr⟩
 |panic ch=>exact⟨_,a₁,w₁,hq,.of_steps (.one (zBd P r _) zA6) harr⟩
 |outgrown=>exact⟨_,a₁,w₁,hq,.of_steps (.one (zBd P r _) zA6) harr⟩
theorem zBA(hT:T.ok P=true):∀(c:Code) (Q:KS) (F:Nat->Value) (w:World),S P T n c Q F w->∀md:Option Nat,md.isSome=T.round->∀a,Rel n F a->c.wpIn (fw md) 0 P (Q.lift n F (wr c)) a w:=by
 intro c
 induction c with
 |skip=>intro Q F w h md hmd a ha;exact wpIn_skip ⟨F,ha,λ_ _=>rfl,h⟩
 |label l=>intro Q F w h md hmd a ha;exact wpIn_label ⟨F,ha,λ_ _=>rfl,h⟩
 |ret=>intro Q F w h md hmd a ha;exact wpIn_ret ⟨F,ha,λ_ _=>rfl,h⟩
 |exit i=>intro Q F w h md hmd a ha;exact wpIn_exit ⟨F,ha,λ_ _=>rfl,h⟩
 |region i ops draw =>
  intro Q F w h md hmd a ha
  cases draw with
  |false =>
   simp only [S_skip,zAE,S_ret,S_exit,S_seq,S_cond,zAD,zAF,zAu,S_draw,S_loop,zAj,S_goto,zAt] at h
   refine Code.wpIn_mono ?_ (wpIn_region_list (zKY hT hmd ops F Q.nrm Q.pan ops.toList (λ_=>false) F w a ha (λ_ _=>rfl) h))
   intro e a' w' hq
   cases e <;> simp only [LQ] at hq <;> simp only [KS.lift]
   ·simpa [wr] using hq
   ·exact hq
  |true=>simp only [S_skip,zAE,S_ret,S_exit,S_seq,S_cond,zAD,zAF,zAu,S_draw,S_loop,zAj,S_goto,zAt] at h;rw [zAN] at h;exact h md hmd a ha
 |seq x y ihx ihy =>
  intro Q F w h md hmd a ha
  simp only [S_skip,zAE,S_ret,S_exit,S_seq,S_cond,zAD,zAF,zAu,S_draw,S_loop,zAj,S_goto,zAt] at h
  refine wpIn_seq (Code.wpIn_mono ?_ (ihx _ F w h md hmd a ha))
  intro e a' w' hq
  cases e <;> simp only [KS.lift,Exit.then] at hq ⊢
  ·obtain⟨F',h1,h2,h3⟩:=hq
   refine Code.wpIn_mono ?_ (ihy _ F' w' h3 md hmd a' h1)
   refine zC7 ?_ ?_ ?_ ?_
   ·exact λG w _ hG hk=>⟨by have:=h2.trans hG;exact this,hk⟩
   ·exact λi G w hG hk=>⟨by have:=h2.trans hG;exact this,hk⟩
   ·exact λG w hG hk=>⟨by have:=h2.trans hG;exact this,hk⟩
   ·exact λG c w hG hk=>⟨by have:=h2.trans hG;exact this,hk⟩
  ·obtain⟨F',h1,h2,h3⟩:=hq;exact⟨F',h1,h2.mono (by intro t ht;simp only [wr,Bool.or_eq_false_iff] at ht;exact ht.1),h3⟩
  ·obtain⟨F',h1,h2,h3⟩:=hq;exact⟨F',h1,h2.mono (by intro t ht;simp only [wr,Bool.or_eq_false_iff] at ht;exact ht.1),h3⟩
  ·obtain⟨F',h1,h2,h3⟩:=hq;exact⟨F',h1,h2.mono (by intro t ht;simp only [wr,Bool.or_eq_false_iff] at ht;exact ht.1),h3⟩
 |cond c x y ihx ihy =>
  intro Q F w h md hmd a ha
  simp only [S_skip,zAE,S_ret,S_exit,S_seq,S_cond,zAD,zAF,zAu,S_draw,S_loop,zAj,S_goto,zAt] at h
  split at h
  ·rename_i t ht
   have hc:a.eval c=.bool t:=by rw [ha.eval];exact ht
   cases t with
   |true =>
    refine wpIn_cond_true hc (Code.wpIn_mono ?_ (ihx _ F w h md hmd a ha))
    refine zC7 ?_ ?_ ?_ (λG c w hG hk=>⟨hG.mono (by intro t ht;simp only [wr,Bool.or_eq_false_iff] at ht;exact ht.1),hk⟩)
    ·exact λG w _ hG hk=>⟨hG.mono (by intro t ht;simp only [wr,Bool.or_eq_false_iff] at ht;exact ht.1),hk⟩
    ·exact λi G w hG hk=>⟨hG.mono (by intro t ht;simp only [wr,Bool.or_eq_false_iff] at ht;exact ht.1),hk⟩
    ·exact λG w hG hk=>⟨hG.mono (by intro t ht;simp only [wr,Bool.or_eq_false_iff] at ht;exact ht.1),hk⟩
   |false =>
    refine wpIn_cond_false hc (Code.wpIn_mono ?_ (ihy _ F w h md hmd a ha))
    refine zC7 ?_ ?_ ?_ (λG c w hG hk=>⟨hG.mono (by intro t ht;simp only [wr,Bool.or_eq_false_iff] at ht;exact ht.2),hk⟩)
    ·exact λG w _ hG hk=>⟨hG.mono (by intro t ht;simp only [wr,Bool.or_eq_false_iff] at ht;exact ht.2),hk⟩
    ·exact λi G w hG hk=>⟨hG.mono (by intro t ht;simp only [wr,Bool.or_eq_false_iff] at ht;exact ht.2),hk⟩
    ·exact λG w hG hk=>⟨hG.mono (by intro t ht;simp only [wr,Bool.or_eq_false_iff] at ht;exact ht.2),hk⟩
  ·exact h.elim
 |block i c ih =>
  intro Q F w h md hmd a ha
  simp only [S_skip,zAE,S_ret,S_exit,S_seq,S_cond,zAD,zAF,zAu,S_draw,S_loop,zAj,S_goto,zAt] at h
  refine wpIn_block (Code.wpIn_mono ?_ (ih _ F w h md hmd a ha))
  intro e a' w' hq
  cases e <;> simp only [KS.lift,Exit.inBlock] at hq ⊢
  ·exact hq
  ·obtain⟨F',h1,h2,h3⟩:=hq
   split at h3
   ·rename_i hb;rw [if_pos (Nat.eq_of_beq_eq_true hb)];exact⟨F',h1,h2,h3⟩
   ·rename_i j _ hb;rw [if_neg (λe=>by rw [e] at hb;simp at hb)];exact⟨F',h1,h2,h3⟩
  ·exact hq
  ·exact hq
 |scope c ih =>
  intro Q F w h md hmd a ha
  simp only [S_skip,zAE,S_ret,S_exit,S_seq,S_cond,zAD,zAF,zAu,S_draw,S_loop,zAj,S_goto,zAt] at h
  refine zIE (Code.wpIn_mono ?_ (ih _ F w h md hmd a ha))
  intro e a' w' hq
  cases e <;> simp only [KS.lift,Exit.noGoto] at hq ⊢ <;> exact hq
 |_=>intro Q F w h md hmd a ha;simp only [S_skip,zAE,S_ret,S_exit,S_seq,S_cond,zAD,zAF,zAu,S_draw,S_loop,zAj,S_goto,zAt] at h;rw [zAN] at h;exact h md hmd a ha
end
end Go.W
namespace Go.W
open Go
variable {B N i j k m n:Nat} {D:Nat -> Prop} {P:Program} {a a':Option Addr} {u u' w w':World}
def codeOf (fn : Func) : Code := match fn.body with | some c => c | none => .refuse ""
structure LoadR (P:Program) (t:TypeId) (a:Addr) (k:Value->Prop) (w:World):Prop where
 out:∃v,(loadVar t a).run P w=.ok v w/\k v
theorem zEM(P:Program)(t:TypeId)(a:Addr)(k:Value->Prop)(w:World):LoadR P t a k w↔(∃v,(loadVar t a).run P w=.ok v w/\k v):=⟨λh=>h.out,λh=>⟨h⟩⟩
def resS (P:Program):List ResultVar->List Value->(Nat->Value)->(Value->World->Prop)->World->Prop
 |[],acc,_,R,w=>match acc with|[v]=>R v w|acc=>R (.tuple acc.toArray) w
 |.tmp t::r,acc,F,R,w=>resS P r (acc++[ev F (.tmp t)]) F R w
 |.cell p t::r,acc,F,R,w=>match ev F (.tmp p) with
  |.pointer (some a)=>LoadR P t a (λv=>resS P r (acc++[v]) F R w) w
  |_=>False
structure LeaveS (P:Program) (rs:List ResultVar) (F:Nat->Value) (ds:List Deferred) (u:FrameMode) (R:Value->World->Prop) (pn:List PanicEntry->World->Prop) (w:World):Prop where
 out:∀(fn:Func) (tmps:Array Value),fn.results.toList=rs->(∀t,tmps.getD t undef=ev F (.tmp t))->LeavesInM Fence.wide 0 P fn tmps (RetP R pn) ds u w
def retS (P:Program) (rs:List ResultVar) (R:Value->World->Prop) (pn:List PanicEntry->World->Prop) (F:Nat->Value) (w:World):Prop:=
 match decD (F 4294967296) with
 |[]=>resS P rs [] F R w
 |d::ds=>LeaveS P rs F (d::ds) .returning R pn w
def panS (P:Program) (rs:List ResultVar) (R:Value->World->Prop) (pn:List PanicEntry->World->Prop) (F:Nat->Value) (c:List PanicEntry) (w:World):Prop:=
 match decD (F 4294967296) with
 |[]=>pn c w
 |d::ds=>LeaveS P rs F (d::ds) (.panicking c) R pn w
def retK (P:Program) (rs:List ResultVar) (R:Value->World->Prop) (pn:List PanicEntry->World->Prop):KS where
 nrm:=λF w=>retS P rs R pn F w
 ext:=λ_ _ _=>False
 ret:=λF w=>retS P rs R pn F w
 pan:=λF c w=>panS P rs R pn F c w
section
variable {P:Program}
def resRun (F:Nat->Value) (x:ResultVar):Sem Value:=
 match x with
 |.tmp t=>pure (ev F (.tmp t))
 |.cell a t=>do loadVar t (<-asAddr (ev F (.tmp a)))
theorem zGi(F:Nat->Value)(R:Value->World->Prop)(w:World):∀(l:List ResultVar) (acc:List Value),
  resS P l acc F R w->∃vs,(l.mapM (resRun F)).run P w=.ok vs w /\
   (match acc++vs with|[v]=>R v w|acc=>R (.tuple acc.toArray) w)
 |[],acc,h=>⟨[],by simp,by simpa [resS] using h⟩
 |.tmp t::r,acc,h=>by
  simp only [resS] at h
  obtain⟨vs,h1,h2⟩:=zGi F R w r _ h
  refine⟨ev F (.tmp t)::vs,?_,by simpa using h2⟩
  simp only [List.mapM_cons,Sem.run_bind,h1,resRun,Sem.run_pure,Result.andThen_ok]
 |.cell p t::r,acc,h=>by
  simp only [resS] at h
  split at h
  ·rename_i a ha
   rw [zEM] at h
   obtain⟨v,hr,h⟩:=h
   obtain⟨vs,h1,h2⟩:=zGi F R w r _ h
   refine⟨v::vs,?_,by simpa using h2⟩
   simp only [List.mapM_cons,Sem.run_bind,h1,resRun,Sem.run_pure,Result.andThen_ok,ha,asAddr,hr]
  ·exact h.elim
theorem zMl{tmps:Array Value}{F:Nat->Value}(hF:∀t,tmps.getD t undef=ev F (.tmp t))(x:ResultVar):(match x with
  |.tmp t=>pure (tmps.getD t undef)
  |.cell a t=>do loadVar t (<-asAddr (tmps.getD a undef)):Sem Value)=resRun F x:=by
 cases x <;> simp only [resRun,hF]
theorem zGY(fn:Func)(tmps:Array Value)(F:Nat->Value)(R:Value->World->Prop)(w:World)(hF:∀t,tmps.getD t undef=ev F (.tmp t))(h:resS P fn.results.toList [] F R w):
  ∃v,(results fn tmps).run P w=.ok v w/\R v w:=by
 obtain⟨vs,h1,h2⟩:=zGi F R w _ _ h
 have key:(fn.results.mapM (resRun F)).run P w=.ok vs.toArray w:=by
  rw [Array.mapM_eq_mapM_toList,Sem.run_map,h1];rfl
 have e:results fn tmps=(do let vs <-fn.results.mapM (resRun F);pure (if h:vs.size=1 then vs[0] else .tuple vs)):=by
  have hx:(λx:ResultVar=>(match x with
   |.tmp t=>pure (tmps.getD t undef)
   |.cell a t=>do loadVar t (<-asAddr (tmps.getD a undef)):Sem Value))=resRun F:=funext (zMl hF)
  rw [<-hx]
  unfold results
  congr 1
 rw [e,Sem.run_bind,key]
 simp only [Result.andThen_ok,List.nil_append] at h2 ⊢
 match vs,h2 with
 |[],h2=>exact⟨_,by simp,h2⟩
 |[v],h2=>exact⟨v,by simp,h2⟩
 |a::b::r,h2=>exact⟨_,by simp,h2⟩
theorem zIL(l:List Value)(t:Nat):argF l t=(l[t]?).getD undef:=by
 induction l generalizing t with
 |nil=>simp [argF]
 |cons x r ih=>cases t <;> simp [argF,ih]
theorem zHJ(args:Array Value)(n:Nat)(hs:args.size<=n)(hk:n<=4294967296):Rel n (argF args.toList) { tmps:=args++Array.replicate (n - args.size) undef,defers:=[] }:=by
 refine⟨by simp;omega,hk,?_,?_⟩
 ·rw [zIL,List.getElem?_eq_none (by simp;omega)];rfl
 intro t _
 rw [zIL]
 simp only [Array.getD_eq_getD_getElem?,Array.getElem?_append]
 by_cases h:t<args.size
 ·simp [h]
 ·have h2:args.toList[t]? = none:=by simp;omega
  simp only [h,if_false,h2,Option.getD_none]
  by_cases h3:t - args.size<n - args.size
  ·simp [h3]
  ·rw [Array.getElem?_eq_none (by simp;omega)];rfl
theorem Rel.ev_get{F:Nat->Value}{a:Act}(h:Rel n F a)(t:Nat):a.tmps.getD t undef=ev F (.tmp t):=by
 rw [<-h.eval];rfl
theorem zFE{T:Tab}(hT:T.ok P=true)(hr:T.round=false){f:FuncId}{fn:Func}{args:Array Value}{R:Value->World->Prop}{pn:List PanicEntry->World->Prop}
  (hf:P.funcs[f]? = some fn)(hn:fn.ntmps=n)(hb:fn.body.isSome=true)(hs:Nat.ble args.size n=true)(hk:Nat.ble n 4294967296=true)
  (h:S P T n (codeOf fn) (retK P fn.results.toList R pn) (argF args.toList) w):Calls P f args w (RetP R pn):=by
 subst hn
 obtain⟨c,hc⟩:=Option.isSome_iff_exists.1 hb
 have hcc:codeOf fn=c:=by simp [codeOf,hc]
 rw [hcc] at h
 rw [<-callsIn_wide (n:=0)]
 refine callsIn_of_wp_marks hf hc trivial (Code.wpIn_mono ?_ (zBA hT c _ _ w h none (by rw [hr];rfl) _ (zHJ args fn.ntmps (Nat.le_of_ble_eq_true hs) (Nat.le_of_ble_eq_true hk))))
 have fin:∀{F':Nat->Value} {a:Act} {w':World},Rel fn.ntmps F' a->retS P fn.results.toList R pn F' w'->LeavesInM Fence.wide 0 P fn a.tmps (RetP R pn) a.defers .returning w':=by
  intro F' a w' h1 h3
  unfold retS at h3
  rw [<-h1.defers] at h3
  split at h3
  ·rename_i hd
   obtain⟨v,h4,h5⟩:=zGY fn a.tmps F' R w' h1.ev_get h3
   rw [hd]
   exact⟨v,h4,h5⟩
  ·rename_i hd
   rw [hd];exact h3.out fn a.tmps rfl h1.ev_get
 intro e a w' hq
 cases e <;> simp only [KS.lift,retK] at hq <;> simp only [bodyPostM]
 ·obtain⟨F',h1,_,h3⟩:=hq;exact fin h1 h3
 ·obtain⟨F',_,_,h3⟩:=hq;exact h3
 ·obtain⟨F',h1,_,h3⟩:=hq;exact fin h1 h3
 ·obtain⟨F',h1,_,h3⟩:=hq
  unfold panS at h3
  rw [<-h1.defers] at h3
  split at h3
  ·rename_i hd
   rw [hd];exact h3
  ·rename_i hd
   rw [hd];exact h3.out fn a.tmps rfl h1.ev_get
theorem zGN{rs:List ResultVar}{F:Nat->Value}{D:Nat}{args:Array Value}{ds:List Deferred}{u:FrameMode}{R:Value->World->Prop}{pn:List PanicEntry->World->Prop}(hu:u≠.run)(hD:w.heap[D]? = some (.deferred (some [])))
  (h:LeaveS P rs F ds u R pn (w.putObj D (.deferred none))):LeaveS P rs F ({ target:=.collected D,args }::ds) u R pn w:=
 ⟨λfn tmps h1 h2=>⟨hu,.inl ⟨D,_,rfl,run_takeDeferred hD,h.out fn tmps h1 h2⟩⟩⟩
theorem leave_ret{rs:List ResultVar}{F:Nat->Value}{R:Value->World->Prop}{pn:List PanicEntry->World->Prop}(h:resS P rs [] F R w):LeaveS P rs F [] .returning R pn w:=
 ⟨λfn tmps h1 h2=>by subst h1;obtain⟨v,h4,h5⟩:=zGY fn tmps F R w h2 h;exact⟨v,h4,h5⟩⟩
theorem Sp.enter{T:Tab}(hT:T.ok P=true)(hr:T.round=false){f:FuncId}{fn:Func}{args:Array Value}{R:Value->World->Prop}
  (hf : P.funcs[f]? = some fn)(hn : fn.ntmps = n)(hb : fn.body.isSome = true)(hm : (fn.name == "runtime.NumGoroutine") = false)(hs : Nat.ble args.size n = true)(hk : Nat.ble n 4294967296 = true)
  (h:S P T n (codeOf fn) (retK P fn.results.toList R (λ_ _=>False)) (argF args.toList) w):Sp P f args w R:=
 ⟨⟨fn,hf,hb,hm⟩,(zFE hT hr hf hn hb hs hk h).mono λe w' he=>by cases e <;> exact he⟩
theorem Sp.mono{f:FuncId}{args:Array Value}{R R':Value->World->Prop}(h:Sp P f args w R)(hr:∀v w',R v w'->R' v w'):Sp P f args w R':=
 ⟨h.can,h.calls.mono λe w' he=>by cases e <;> first|exact hr _ _ he|exact he⟩
theorem ite{p A B:Prop}(h:p->A)(h':¬p->B):IteC p A B:=⟨h,h'⟩
theorem rcall{f:FuncId}{args:Array Value}{k:Value->World->Prop}{pn:List PanicEntry->World->Prop}{R:Value->World->Prop}
  (h:Sp P f args w R)(hk:∀v w',R v w'->k v w'):CallS P f args k pn w:=by
 rw [zA8]
 exact⟨h.can,h.calls.mono λe w' he=>by cases e <;> first|exact hk _ _ he|exact he.elim⟩
theorem zB2{x:Int}(h0:-9223372036854775808<=x)(h1:x<=9223372036854775807):IntKind.i64.wrap x=x:=IntWalk.i64_in x (by omega)
theorem rar{x:Int}{k:Value->World->Prop}(h0:-9223372036854775808<=x/\x<=9223372036854775807)(hk:k (.int .i64 x) w):ArS .i64 x k w:=by
 rw [zDj];rw [zB2 h0.1 h0.2];exact hk
theorem rA {k:Value->World->Prop}{w:World}{x:Int}(hk:k (.int .i64 x) w)(h0:-9223372036854775808<=x/\x<=9223372036854775807:=by omega):ArS .i64 x k w:=rar h0 hk
theorem iF {p A B:Prop}(h:¬p)(k:B):IteC p A B:=⟨λx=>absurd x h,λ_=>k⟩
theorem iT {p A B:Prop}(h:p)(k:A):IteC p A B:=⟨λ_=>k,λx=>absurd h x⟩
theorem nf:¬False:=id
end
def isRec:Obj->Bool
 |.loop _=>true
 |.deferred _=>true
 |_=>false
structure Fr (D:Nat->Prop) (w w':World):Prop where
 os:w'.os=w.os
 tape:w'.tape=w.tape
 output:w'.output=w.output
 size:w.heap.size<=w'.heap.size
 block:∀b,b<w.heap.size->¬D b->w'.heap[b]? = w.heap[b]?
 nc:∀(b:Nat) (o:Obj),w.heap[b]? = some o->isRec o=true->w'.heap[b]? = some o
abbrev Ext (w w':World):Prop:=Fr (λ_=>False) w w'
theorem blk_lt{b:Nat}{o:Obj}(hb:w.heap[b]? = some o):b<w.heap.size:=by
 rcases Nat.lt_or_ge b w.heap.size with h'|h'
 ·exact h'
 ·rw [Array.getElem?_eq_none h'] at hb;cases hb
theorem Fr.refl(D:Nat->Prop)(w:World):Fr D w w:=⟨rfl,rfl,rfl,Nat.le_refl _,λ_ _ _=>rfl,λ_ _ h _=>h⟩
theorem Fr.trans{a b c:World}(h:Fr D a b)(k:Fr D b c):Fr D a c:=
 ⟨k.os.trans h.os,k.tape.trans h.tape,k.output.trans h.output,Nat.le_trans h.size k.size,λi hi hd=>(k.block i (Nat.lt_of_lt_of_le hi h.size) hd).trans (h.block i hi hd),λi o hi ho=>k.nc i o (h.nc i o hi ho) ho⟩
theorem Fr.mono{D':Nat->Prop}{a b:World}(h:Fr D a b)(hd:∀i,i<a.heap.size->D i->D' i):Fr D' a b:=
 ⟨h.os,h.tape,h.output,h.size,λi hi hn=>h.block i hi λhx=>hn (hd i hi hx),h.nc⟩
theorem Fr.fr{a b:World}(h:Ext a b):Fr D a b:=h.mono λ_ _ h=>h.elim
theorem Fr.st{a b c:World}(h:Ext a b)(k:Fr D b c)(hd:∀i,D i->a.heap.size<=i):Ext a c:=
 ⟨k.os.trans h.os,k.tape.trans h.tape,k.output.trans h.output,Nat.le_trans h.size k.size,λi hi _=>(k.block i (Nat.lt_of_lt_of_le hi h.size) λhx=>by have:=hd i hx;omega).trans (h.block i hi id),λi o hi ho=>k.nc i o (h.nc i o hi ho) ho⟩
theorem Ext.t{a b c:World}(h:Ext a b)(k:Ext b c):Ext a c:=Fr.trans h k
class Stp (a:outParam World) (c:World):Prop where
 e:Ext a c
class Stw (u b:outParam World) (c:World):Prop where
 e:Fr (λi=>u.heap.size<=i) b c
class Le (a b:World):Prop where
 e:Ext a b
instance Le.refl (a:World):Le a a:=⟨Fr.refl _ a⟩
instance Le.step {a b c:World} [k:Stp b c] [h:Le a b]:Le a c:=⟨h.e.t k.e⟩
instance Le.fresh {a b c u:World} [k:Stw u b c] [h:Le a b] [g:Le a u]:Le a c:=⟨Fr.st h.e k.e λ_ hi=>Nat.le_trans g.e.size hi⟩
theorem stp{a b:World}[h:Le a b]:Stp a b:=⟨h.e⟩
theorem Le.size{a b:World}[h:Le a b]:a.heap.size<=b.heap.size:=h.e.size
theorem Fr.stw{b c:World}(h:Fr D b c)(hd:∀i,D i->u.heap.size<=i):Stw u b c:=⟨h.mono λi _ hi=>hd i hi⟩
theorem upb{a b:World}[h:Le a b]{o:Obj}(hb:a.heap[i]? = some o):b.heap[i]? = some o:=by
 rw [h.e.block i (blk_lt hb) id];exact hb
theorem Ext.alloc(w:World)(o:Obj):Ext w (w.alloc o):=⟨rfl,rfl,rfl,by simp,λb hb _=>Go.RowKit.Below.heap_alloc w o b hb,λb o' hb _=>(Go.RowKit.Below.heap_alloc w o b (blk_lt hb)).trans hb⟩
theorem Ext.drew(w:World):Ext w { w with drawn:=w.drawn+1 }:=⟨rfl,rfl,rfl,Nat.le_refl _,λ_ _ _=>rfl,λ_ _ h _=>h⟩
theorem Fr.grown{row:Option Nat}(h:w.grownBy w' row)(hr:∀r o,row=some r->w.heap[r]? = some o->isRec o=false):Fr (λb=>some b=row) w w':=
 ⟨h.os,h.tape,h.output,h.size,λb hb hn=>h.block b hb hn,λb o hb ho=>(h.block b (blk_lt hb) λe=>by have:=hr b o e.symm hb;rw [this] at ho;cases ho).trans hb⟩
theorem Fr.below(h:Fr D w w')(hd:∀b,b<w.heap.size->¬D b):Go.RowKit.Below w.heap.size w w':=⟨h.os,h.tape,h.output,h.size,λb hb=>h.block b hb (hd b hb)⟩
theorem Ext.below(h:Ext w w'):Go.RowKit.Below w.heap.size w w':=Fr.below h λ_ _ h=>h
theorem Fr.blk(h:Fr D w w'){b:Nat}{o:Obj}(hb:w.heap[b]? = some o)(hd:¬D b):w'.heap[b]? = some o:=by
 have hl:b<w.heap.size:=by
  rcases Nat.lt_or_ge b w.heap.size with h'|h'
  ·exact h'
  ·rw [Array.getElem?_eq_none h'] at hb;cases hb
 rw [h.block b hl hd];exact hb
theorem Ext.blk(h:Ext w w'){b:Nat}{o:Obj}(hb:w.heap[b]? = some o):w'.heap[b]? = some o:=Fr.blk h hb id
theorem Fr.cell(h:Fr D w w'){a:Addr}{v:Value}(hc:w.cell? a=some v)(hd:¬D a.block):w'.cell? a=some v:=by
 rw [World.cell?_of_block (w:=w) (h.block a.block (World.block_lt_of_cell? w a hc) hd)];exact hc
theorem Ext.cell(h:Ext w w'){a:Addr}{v:Value}(hc:w.cell? a=some v):w'.cell? a=some v:=Fr.cell h hc id
def At (w:World) (b o:Nat) (cs:List Value):Prop:=∀j v,cs[j]? = some v->w.cell? ⟨b,o+j,none⟩=some v
theorem At.fr{b o:Nat}{cs:List Value}(h:At w b o cs)(hf:Fr D w w')(hd:¬D b):At w' b o cs:=λj v hj=>hf.cell (h j v hj) hd
theorem At.ext{b o:Nat}{cs:List Value}(h:At w b o cs)(hf:Ext w w'):At w' b o cs:=At.fr h hf id
theorem At.up[h:Le w w']{b o:Nat}{cs:List Value}(a:At w b o cs):At w' b o cs:=a.ext h.e
theorem At.cell{b o:Nat}{cs:List Value}(h:At w b o cs)(j:Nat){v:Value}(hj:cs[j]? = some v):w.cell? ⟨b,o+j,none⟩=some v:=h j v hj
theorem At.cell0{b o:Nat}{cs:List Value}(h:At w b o cs){v:Value}(hj:cs[0]? = some v):w.cell? ⟨b,o,none⟩=some v:=h 0 v hj
theorem At.sub{b o:Nat}{cs:List Value}(h:At w b o cs)(i n:Nat):At w b (o+i) ((cs.drop i).take n):=by
 intro j v hj
 have:cs[i+j]? = some v:=by
  rw [List.getElem?_take] at hj
  split at hj
  ·simpa using hj
  ·cases hj
 have:=h _ _ this
 rwa [<-Nat.add_assoc] at this
theorem At.blk{b:Nat}{cs:Array Value}{e:TypeId}{fz:Nat×Nat}(h:w.heap[b]? = some (.cells cs e fz)):At w b 0 cs.toList:=by
 intro j v hj
 rw [cell_of_row w b (0+j) cs e fz h]
 simpa using hj
def look:List (Nat×Value)->Nat->Option Value
 |[],_=>none
 |(s,v)::r,t=>bif Nat.beq s t then some v else look r t
def memB:List Nat->Nat->Bool
 |[],_=>false
 |s::r,t=>Nat.beq s t || memB r t
def hdF (m:Nat) (keep:List Nat) (sv:List (Nat×Value)) (g F:Nat->Value):Nat->Value:=λt =>
 match look sv t with
 |some v=>v
 |none=>bif Nat.beq t 4294967296 || xor (Nat.blt t m) (memB keep t) then F t else g t
def mapF (F:Nat->Value):List Nat->List Value
 |[]=>[]
 |s::r=>F s::mapF F r
def zipS:List Nat->List Value->List (Nat×Value)
 |s::r,v::vs=>(s,v)::zipS r vs
 |_,_=>[]
def nodupB:List Nat->Bool
 |[]=>true
 |s::r=>!memB r s && nodupB r
def okD (m:Nat) (keep slots:List Nat) (d:Nat):Bool:=memB slots d || !(Nat.beq d 4294967296 || xor (Nat.blt d m) (memB keep d))
def okL (m:Nat) (keep slots:List Nat):List Oper->Bool
 |[]=>true
 |o::r=>(match o.dst with|some d=>okD m keep slots d|none=>true) && (bif isDef o.op then okD m keep slots 4294967296 else true) && okL m keep slots r
def okC (m:Nat) (keep slots:List Nat):Code->Bool
 |.region _ ops _=>okL m keep slots ops.toList
 |.seq a b=>okC m keep slots a && okC m keep slots b
 |.cond _ a b=>okC m keep slots a && okC m keep slots b
 |.block _ c=>okC m keep slots c
 |.loop c=>okC m keep slots c
 |.scope c=>okC m keep slots c
 |.rangeFunc ..=>okD m keep slots 4294967296
 |_=>true
def wrAll (c:Code):List Nat->Bool
 |[]=>true
 |s::r=>wr c s && wrAll c r
def okB (m:Nat) (keep slots:List Nat) (c:Code):Bool:=okC m keep slots c && nodupB slots && wrAll c slots && !memB slots 4294967296
theorem okL_spec{keep slots:List Nat}(l:List Oper)(h:okL m keep slots l=true)(t:Nat)(ht:wrL l t=true):okD m keep slots t=true:=by
 induction l with
 |nil=>simp [wrL] at ht
 |cons o r ih =>
  simp only [okL,Bool.and_eq_true] at h
  simp only [wrL,Bool.or_eq_true] at ht
  rcases ht with ht|ht
  ·unfold wrO at ht
   rw [Bool.or_eq_true,Bool.and_eq_true] at ht
   rcases ht with ht|ht
   ·unfold isD at ht
    have h1:=h.1.1
    split at ht
    ·rename_i d hd
     simp only [hd] at h1
     rw [Nat.eq_of_beq_eq_true ht];exact h1
    ·cases ht
   ·have h1:=h.1.2
    rw [ht.1,cond_true] at h1
    rw [Nat.eq_of_beq_eq_true ht.2];exact h1
  ·exact ih h.2 ht
theorem zJk{keep slots:List Nat}:∀(c:Code),okC m keep slots c=true->∀t,wr c t=true->okD m keep slots t=true:=by
 intro c
 induction c with
 |region i ops d=>intro h t ht;exact okL_spec _ h t ht
 |seq a b iha ihb=>intro h t ht;simp only [okC,Bool.and_eq_true] at h;simp only [wr,Bool.or_eq_true] at ht;exact ht.elim (iha h.1 t) (ihb h.2 t)
 |cond x a b iha ihb=>intro h t ht;simp only [okC,Bool.and_eq_true] at h;simp only [wr,Bool.or_eq_true] at ht;exact ht.elim (iha h.1 t) (ihb h.2 t)
 |block i c ih=>intro h t ht;exact ih h t ht
 |loop c ih=>intro h t ht;exact ih h t ht
 |scope c ih=>intro h t ht;exact ih h t ht
 |rangeFunc f ps a b=>intro h t ht;rw [Nat.eq_of_beq_eq_true ht];exact h
 |_=>intro h t ht;simp [wr] at ht
theorem zJf(slots:List Nat)(F:Nat->Value)(t:Nat):look (zipS slots (mapF F slots)) t=bif memB slots t then some (F t) else none:=by
 induction slots with
 |nil=>rfl
 |cons s r ih =>
  simp only [mapF,zipS,look,memB]
  cases h:Nat.beq s t with
  |true=>rw [Nat.eq_of_beq_eq_true h];simp
  |false=>simp [ih]
section
variable {P:Program} {T:Tab} {n:Nat}
theorem zI4{keep slots:List Nat}{c:Code}(hok:okB m keep slots c=true){F G:Nat->Value}(h:agree (wr c) F G):
  hdF m keep (zipS slots (mapF G slots)) G F=G:=by
 simp only [okB,Bool.and_eq_true] at hok
 funext t
 unfold hdF
 rw [zJf]
 cases hm:memB slots t with
 |true=>rfl
 |false =>
  simp only [cond_false]
  cases hk:(Nat.beq t 4294967296 || xor (Nat.blt t m) (memB keep t)) with
  |false=>rfl
  |true =>
   simp only [cond_true]
   cases hw:wr c t with
   |false=>exact(h t hw).symm
   |true =>
    have:=zJk c hok.1.1.1 t hw
    simp only [okD,hm,Bool.false_or,hk] at this
    cases this
theorem loopL(hT:T.ok P=true)(m:Nat)(keep slots:List Nat)(I:List Value->World->Prop)(μ:List Value->World->Nat){body:Code}{Q:KS}{F:Nat->Value}
  (hok:okB m keep slots body=true)(h0:I (mapF F slots) w)
  (hr:∀vs g w,vs.length=slots.length->I vs w->S P T n body
   { Q with nrm:=λF' w'=>I (mapF F' slots) w'/\μ (mapF F' slots) w'<μ vs w } (hdF m keep (zipS slots vs) g F) w):DeepS P T n (.loop body) Q F w:=by
 rw [zAN]
 intro md hmd a ha
 have hok':=hok
 simp only [okB,Bool.and_eq_true,Bool.not_eq_true'] at hok'
 have hmap:∀(A B:Nat->Value),(∀t,t≠4294967296->A t=B t)->mapF A slots=mapF B slots:=by
  intro A B hAB
  have:∀l:List Nat,memB l 4294967296=false->mapF A l=mapF B l:=by
   intro l
   induction l with
   |nil=>intro _;rfl
   |cons s r ih =>
    intro h
    simp only [memB,Bool.or_eq_false_iff] at h
    simp only [mapF]
    rw [ih h.2,hAB s λe=>by subst e;simp at h]
  exact this slots hok'.2
 have hdag:∀(G:Nat->Value),agree (wr body) F G->hdF m keep (zipS slots (mapF G slots)) G F=G:=λG hG=>zI4 hok hG
 refine wpIn_loop (λa' w'=>∃G,Rel n G a'/\agree (wr body) F G/\I (mapF G slots) w') (λa' w'=>μ (mapF (λt=>a'.tmps.getD t undef) slots) w') ⟨F,ha,λ_ _=>rfl,h0⟩ ?_
 rintro a' w' ⟨G,hG,hag,hI⟩
 have hlen:(mapF G slots).length=slots.length:=by
  have:∀l,(mapF G l).length=l.length:=by intro l;induction l <;> simp_all [mapF]
  exact this slots
 have hb:=hr (mapF G slots) G w' hlen hI
 rw [hdag G hag] at hb
 have hGe:mapF (λt=>a'.tmps.getD t undef) slots=mapF G slots:=hmap _ _ hG.get
 refine Code.wpIn_mono ?_ (zBA hT body _ _ _ hb md hmd a' hG)
 intro e a'' w'' hq
 cases e <;> simp only [KS.lift,Exit.then] at hq ⊢
 ·obtain⟨G',h1,h2,h3,h4⟩:=hq
  have hGe':mapF (λt=>a''.tmps.getD t undef) slots=mapF G' slots:=hmap _ _ h1.get
  refine⟨⟨G',h1,λt ht=>by rw [h2 t ht,hag t ht],h3⟩,?_⟩
  rw [hGe,hGe'];exact h4
 ·obtain⟨G',h1,h2,h3⟩:=hq;exact⟨G',h1,λt ht=>by simp only [wr] at ht;rw [h2 t ht,hag t ht],h3⟩
 ·obtain⟨G',h1,h2,h3⟩:=hq;exact⟨G',h1,λt ht=>by simp only [wr] at ht;rw [h2 t ht,hag t ht],h3⟩
 ·obtain⟨G',h1,h2,h3⟩:=hq;exact⟨G',h1,λt ht=>by simp only [wr] at ht;rw [h2 t ht,hag t ht],h3⟩
theorem loop1(hT:T.ok P=true)(m:Nat)(keep:List Nat)(s1:Nat)(I:Value->World->Prop)(μ:Value->World->Nat){body:Code}{Q:KS}{F:Nat->Value}
  (hok:okB m keep [s1] body=true)(h0:I (F s1) w)
  (hr:∀v1 g w,I v1 w->S P T n body { Q with nrm:=λF' w'=>I (F' s1) w'/\μ (F' s1) w'<μ v1 w } (hdF m keep [(s1,v1)] g F) w):DeepS P T n (.loop body) Q F w:=
 loopL hT m keep [s1] (λvs w=>match vs with|[v1]=>I v1 w|_=>False) (λvs w=>match vs with|[v1]=>μ v1 w|_=>0) hok h0
  λvs g w _ hI=>match vs,hI with|[v1],hI=>hr v1 g w hI
theorem loop2(hT:T.ok P=true)(m:Nat)(keep:List Nat)(s1 s2:Nat)(I:Value->Value->World->Prop)(μ:Value->Value->World->Nat){body:Code}{Q:KS}{F:Nat->Value}
  (hok:okB m keep [s1,s2] body=true)(h0:I (F s1) (F s2) w)
  (hr:∀v1 v2 g w,I v1 v2 w->S P T n body { Q with nrm:=λF' w'=>I (F' s1) (F' s2) w'/\μ (F' s1) (F' s2) w'<μ v1 v2 w } (hdF m keep [(s1,v1),(s2,v2)] g F) w):DeepS P T n (.loop body) Q F w:=
 loopL hT m keep [s1,s2] (λvs w=>match vs with|[v1,v2]=>I v1 v2 w|_=>False) (λvs w=>match vs with|[v1,v2]=>μ v1 v2 w|_=>0) hok h0
  λvs g w _ hI=>match vs,hI with|[v1,v2],hI=>hr v1 v2 g w hI
theorem loop3(hT:T.ok P=true)(m:Nat)(keep:List Nat)(s1 s2 s3:Nat)(I:Value->Value->Value->World->Prop)(μ:Value->Value->Value->World->Nat){body:Code}{Q:KS}{F:Nat->Value}
  (hok:okB m keep [s1,s2,s3] body=true)(h0:I (F s1) (F s2) (F s3) w)
  (hr:∀v1 v2 v3 g w,I v1 v2 v3 w->S P T n body { Q with nrm:=λF' w'=>I (F' s1) (F' s2) (F' s3) w'/\μ (F' s1) (F' s2) (F' s3) w'<μ v1 v2 v3 w } (hdF m keep [(s1,v1),(s2,v2),(s3,v3)] g F) w):DeepS P T n (.loop body) Q F w:=
 loopL hT m keep [s1,s2,s3] (λvs w=>match vs with|[v1,v2,v3]=>I v1 v2 v3 w|_=>False) (λvs w=>match vs with|[v1,v2,v3]=>μ v1 v2 v3 w|_=>0) hok h0
  λvs g w _ hI=>match vs,hI with|[v1,v2,v3],hI=>hr v1 v2 v3 g w hI
end
def oneB (P:Program) (t:TypeId):Bool:=match P.underlying t with|some (.struct _)=>false|some (.array _ _)=>false|some _=>true|none=>false
def aggB (P:Program) (t n:Nat):Bool:=(match P.underlying t with|some (.struct _)=>true|some (.array _ _)=>true|_=>false) && (match P.info? t with|some i=>Nat.beq i.size n|none=>false)
class One (P:Program) (t:TypeId):Prop where
 h:oneB P t=true
class Agg (P:Program) (t:TypeId) (n:outParam Nat):Prop where
 h:aggB P t n=true
class SlT (P:Program) (t:TypeId) (e:outParam TypeId):Prop where
 h:P.underlying t=some (.slice e)
class Elem (P:Program) (e:TypeId) (z:outParam Value) (sz bytes:outParam Nat):Prop where
 h:(P.info? e).map (λi=>(i.zero,i.size,i.bytes))=some (some z,sz,bytes)
section
variable {P:Program} {k:Value->World->Prop} {pn:List PanicEntry->World->Prop} {w:World}
theorem SemV.of{s:Sem Value}{v:Value}(h:s.run P w=.ok v w')(hk:k v w'):SemV P s k pn w:=by rw [zCC];rw [h];exact hk
theorem SemU.of{s:Sem Unit}(h:s.run P w=.ok () w')(hk:k undef w'):SemU P s k pn w:=by rw [zDM];rw [h];exact hk
theorem zEv{t:TypeId}(h:oneB P t=true)(w:World):(isAgg t).run P w=.ok false w:=by
 unfold oneB at h
 simp only [isAgg,underlying,Sem.run_bind,run_program,Result.andThen_ok]
 cases hd:P.underlying t with
 |none=>rw [hd] at h;cases h
 |some d =>
  rw [hd] at h
  cases d <;> first|rfl|cases h
end
theorem zAv(b o d:Nat):(⟨b,o,none⟩:Addr).add d=⟨b,o+d,none⟩:=by
 unfold Addr.add;split <;> simp_all
section
variable {P:Program} {k:Value->World->Prop} {pn:List PanicEntry->World->Prop} {w:World}
theorem zCd{t:TypeId}(ht:One P t){a:Addr}{v:Value}(h:w.cell? a=some v):(loadVar t a).run P w=.ok v w:=by
 simp only [loadVar,Sem.run_bind,zEv ht.h,Result.andThen_ok,Bool.false_eq_true,if_false]
 simp [load,Sem.run,h]
theorem zFY{t:Nat}(h:aggB P t n=true):(isAgg t).run P w=.ok true w/\(sizeOf t).run P w=.ok n w:=by
 unfold aggB at h
 rw [Bool.and_eq_true] at h
 obtain⟨h1,h2⟩:=h
 constructor
 ·split at h1
  ·rename_i fs hfs;simp only [isAgg,underlying,Sem.run_bind,run_program,Result.andThen_ok,hfs,Sem.run_pure]
  ·rename_i x y hfs;simp only [isAgg,underlying,Sem.run_bind,run_program,Result.andThen_ok,hfs,Sem.run_pure]
  ·cases h1
 ·split at h2
  ·rename_i i hi
   simp only [sizeOf,typeInfo,Sem.run_bind,run_program,Result.andThen_ok,hi,Sem.run_pure]
   rw [Nat.eq_of_beq_eq_true h2]
  ·cases h2
theorem zFb{t:Nat}(ht:Agg P t n){b o:Nat}{cs:List Value}(h:At w b o cs)(hl:cs.length=n):(loadVar t ⟨b,o,none⟩).run P w=.ok (.agg cs.toArray) w:=by
 obtain⟨h1,h2⟩:=zFY (w:=w) ht.h
 simp only [loadVar,Sem.run_bind,h1,Result.andThen_ok,if_true,h2]
 rw [<-hl,run_loadCells_list (P:=P) (w:=w) ⟨b,o,none⟩ cs (λj v hj=>by rw [zAv];exact h j v hj)]
 rfl
theorem rload1{t:TypeId}[ht:One P t]{b o:Nat}{v:Value}(h:w.cell? ⟨b,o,none⟩=some v)(hk:k v w):SemV P (Instr.loadAt t (.pointer (some ⟨b,o,none⟩))) k pn w:=
 SemV.of (v:=v) (w':=w) (by simp [Instr.loadAt,Instr.sureAddr,zCd ht h]) hk
theorem rloadA{t:Nat}[ht:Agg P t n]{b o:Nat}{cs:List Value}(h:At w b o cs)(hl:cs.length=n)(hk:k (.agg cs.toArray) w):SemV P (Instr.loadAt t (.pointer (some ⟨b,o,none⟩))) k pn w:=
 SemV.of (v:=.agg cs.toArray) (w':=w) (by simp [Instr.loadAt,Instr.sureAddr,zFb ht h hl]) hk
theorem rres1{t:TypeId}[ht:One P t]{b o:Nat}{v:Value}{k:Value->Prop}(h:w.cell? ⟨b,o,none⟩=some v)(hk:k v):LoadR P t ⟨b,o,none⟩ k w:=by
 rw [zEM];exact⟨v,zCd ht h,hk⟩
theorem rresA{t:Nat}[ht:Agg P t n]{b o:Nat}{cs:List Value}{k:Value->Prop}(h:At w b o cs)(hl:cs.length=n)(hk:k (.agg cs.toArray)):LoadR P t ⟨b,o,none⟩ k w:=by
 rw [zEM];exact⟨_,zFb ht h hl,hk⟩
class New (w:outParam World) (w':World) (b:outParam Nat) (cs:outParam (Array Value)) (e:outParam TypeId):Prop where
 lo:w.heap.size<=b
 blk:w'.heap[b]? = some (.cells cs e (0,0))
 ext:Ext w w'
theorem New.mk'(w:World)(cs:Array Value)(e:TypeId):New w (w.alloc (.cells cs e)) w.heap.size cs e:=⟨Nat.le_refl _,heap_alloc_new w _,Ext.alloc w _⟩
instance New.stp {w w':World} {b:Nat} {cs:Array Value} {e:TypeId} [n:New w w' b cs e]:Stp w w':=⟨n.ext⟩
theorem rbox{e:TypeId}{v:Value}(hk:∀b w',New w w' b v.cells e->k (.pointer (some ⟨b,0,none⟩)) w'):SemV P (Instr.box e v) k pn w:=
 SemV.of (v:=.pointer (some ⟨w.heap.size,0,none⟩)) (w':=w.alloc (.cells v.cells e)) (by rfl) (hk _ _ (New.mk' w v.cells e))
theorem ralloc{e:TypeId}{z:Value}{sz by':Nat}[he:Elem P e z sz by'](hk:∀b w',New w w' b z.cells e->k (.pointer (some ⟨b,0,none⟩)) w'):SemV P (Instr.alloc e true (.tuple #[])) k pn w:=by
 obtain⟨i,hi,hz,_,_⟩:=info_parts he.h
 exact SemV.of (v:=.pointer (some ⟨w.heap.size,0,none⟩)) (w':=w.alloc (.cells z.cells e)) (by simp [Instr.alloc,zeroValue,typeInfo,hi,hz,newVar,newRow]) (hk _ _ (New.mk' w z.cells e))
theorem zDy{t e:TypeId}{z:Value}{sz by':Nat}(ht:SlT P t e)(he:Elem P e z sz by'){b o c:Nat}{i:Int}(h0:0<=i)(h1:i<n)(w:World):
  (Instr.indexAt t (.slice (some ⟨b,o,none⟩) n c) (.int .i64 i)).run P w=.ok (.pointer (some ⟨b,o+i.toNat*sz,none⟩)) w:=by
 obtain⟨j,hj,_,hs,_⟩:=info_parts he.h
 simp [Instr.indexAt,asIntOf,underlying,ht.h,sizeOf,typeInfo,hj,hs,h0,h1,zAv]
end
end Go.W
set_option linter.unusedSimpArgs false
namespace Go.W
open Go
variable {B N i j k m n:Nat} {D:Nat -> Prop} {P:Program} {a a':Option Addr} {u u' w w':World}
structure TakeS (P:Program) (s:Sem Value) (D:Nat->Prop) (k:Value->Prop) (w:World):Prop where
 out:∃v,(∀w',Fr D w w'->s.run P w'=.ok v w')/\k v
theorem zAg(P:Program)(s:Sem Value)(D:Nat->Prop)(k:Value->Prop)(w:World):TakeS P s D k w↔(∃v,(∀w',Fr D w w'->s.run P w'=.ok v w')/\k v):=⟨λh=>h.out,λh=>⟨h⟩⟩
def takeK (o:Oper):Bool:=
 match o.op with
 |.move _ | .assign _ | .pick .. | .binOp .. | .unOp .. | .fieldAddr .. | .extract .. | .makeFunc .. | .load .. | .indexAddr .. | .index .. | .slice .. | .build .. | .lookup .. | .convert .. | .field .. | .makeInterface .. | .typeAssert .. | .nilCheck ..=>true
 |.call { callee:=.builtin b,.. }=>match b with | .len | .max | .min | .cap=>true|_=>false
 |_=>false
def takeS (P:Program) (T:Tab) (D:Nat->Prop) (o:Oper) (F:Nat->Value) (k:Value->Prop) (w:World):Prop:=
 match o.op with
 |.move x | .assign x=>k (ev F x)
 |.pick c a b=>pickS (ev F c) (ev F a) (ev F b) (λv _=>k v) w
 |.binOp op t x y _=>match ev F x,ev F y with
  |.int kx m,.int ky n=>bif kindEq kx ky then
    match op with
    |.add=>ArS kx (m+n) (λv _=>k v) w
    |.sub=>ArS kx (m - n) (λv _=>k v) w
    |.mul=>ArS kx (m*n) (λv _=>k v) w
    |.quo=>DivS kx m n (λv _=>k v) w
    |.rem=>RemS kx m n (λv _=>k v) w
    |op=>cmpS op m n (λv _=>k v) False w
   else False
  |a,b=>TakeS P (do eqGuard op t x y a b;binOp op t a b) D k w
 |.unOp op _ x=>match op,ev F x with
  |.not,.bool b=>k (.bool (!b))
  |op,v=>TakeS P (Op.unary op v) D k w
 |.fieldAddr s x f=>fieldS T s f (ev F x) (TakeS P (Instr.fieldAt s (ev F x) f) D k w) (λv _=>k v) w
 |.nilCheck x=>nilS (ev F x) False (λv _=>k v) w
 |.extract t i=>extS (ev F t) i (λv _=>k v) w
 |.makeFunc fn first captured=>k (.func fn (evL F first.toList).toArray (evL F captured.toList).toArray)
 |.load t a=>TakeS P (Instr.loadAt t (ev F a)) D k w
 |.indexAddr t x ix=>TakeS P (Instr.indexAt t (ev F x) (ev F ix)) D k w
 |.index t x ix=>TakeS P (Instr.index t (ev F x) (ev F ix)) D k w
 |.slice t x lo hi mx=>TakeS P (Instr.sliceAt t (ev F x) (lo.map (ev F)) (hi.map (ev F)) (mx.map (ev F))) D k w
 |.build t parts=>TakeS P (Instr.build t (evP F parts.toList).toArray) D k w
 |.lookup t x ix ok=>TakeS P (Instr.lookup t (ev F x) (ev F ix) ok) D k w
 |.convert src dst x=>TakeS P (convert src dst (ev F x)) D k w
 |.field t x f=>TakeS P (Instr.field t (ev F x) f) D k w
 |.makeInterface t x=>TakeS P (Instr.makeInterface t (ev F x)) D k w
 |.typeAssert x t u ok=>TakeS P (Instr.typeAssert (ev F x) t u ok) D k w
 |.call c=>match c.callee with
  |.builtin b=>match b with
   |.len=>match c.args.toList,c.argTypes.toList with
    |[x],[t]=>lenS T t (ev F x) (TakeS P (Builtin.len_ c.argTypes o.type (evL F c.args.toList).toArray) D k w) (λv _=>k v) w
    |_,_=>False
   |.max=>TakeS P (Builtin.max_ c.argTypes o.type (evL F c.args.toList).toArray) D k w
   |.min=>TakeS P (Builtin.min_ c.argTypes o.type (evL F c.args.toList).toArray) D k w
   |.cap=>TakeS P (Builtin.cap_ c.argTypes o.type (evL F c.args.toList).toArray) D k w
   |_=>False
  |_=>False
 |_=>False
section
variable {P:Program} {T:Tab} {n:Nat}
theorem takeV{k:Value->Prop}{s:Sem Value}(h:TakeS P s D k w):
  ∃v,(∀w',Fr D w w'->(do let x <-s;pure (Next.value x):Sem Next).run P w'=.ok (.value v) w')/\k v:=by
 rw [zAg] at h
 obtain⟨v,h1,h2⟩:=h
 exact⟨v,λw' hw'=>by rw [run_v,h1 w' hw'];rfl,h2⟩
theorem zIi(hT : T.ok P = true){o : Oper}{F : Nat -> Value}{k : Value -> Prop}(h : takeS P T D o F k w) :
    ∃ v, (∀ w', Fr D w w' -> (execOp (ev F) o).run P w' = .ok (.value v) w') /\ k v := by
  unfold takeS at h
  unfold execOp
  split at h <;> rename_i ho <;> simp only [ho]
  · exact ⟨_, λw' _ => rfl, h⟩
  · exact ⟨_, λw' _ => rfl, h⟩
  · unfold pickS at h
    split at h
    · rename_i c hc
      simp only [hc, asBool]
      cases c <;> exact ⟨_, λw' _ => by simp, h⟩
    · exact h.elim
  · split at h
    · rename_i op t x y _ _ _ kx m ky n hx hy
      cases hk : kindEq kx ky with
      | false => simp only [hk, cond_false] at h
      | true =>
        simp only [hk, cond_true] at h
        obtain rfl := zHX hk
        have key : ∀ v, (∀ w', (binOp op t (.int kx m) (.int kx n)).run P w' = .ok v w') -> k v -> ∃ v, (∀ w', Fr D w w' -> (do let v <- (do eqGuard op t x y (ev F x) (ev F y); binOp op t (ev F x) (ev F y) : Sem Value); pure (Next.value v) : Sem Next).run P w' = .ok (.value v) w') /\ k v := by
          intro v hv hkv
          refine ⟨v, λw' _ => ?_, hkv⟩
          rw [hx, hy, run_v, Sem.run_bind, zFF]
          simp only [Result.andThen_ok, hv]
        cases op <;> simp only [cmpS, zDj, zDK, zCB] at h <;> first
          | exact h.elim
          | (refine key _ (λw' => ?_) h; simp [binOp, Op.intArith]; done)
          | (obtain ⟨h0, h1⟩ := h; refine key _ (λw' => ?_) h1; simp [binOp, Op.intDiv, h0]; done)
          | (rcases Classical.em _ with hp | hp
             · refine key (.bool true) (λw' => ?_) (h.t hp); simp [binOp, Op.intCmp]; first | exact hp | omega
             · refine key (.bool false) (λw' => ?_) (h.f hp); simp [binOp, Op.intCmp]; first | exact hp | omega)
    · exact takeV h
  · split at h
    · rename_i b hb
      exact ⟨_, λw' _ => by simp [hb, Op.unary], h⟩
    · exact takeV h
  · unfold fieldS at h
    split at h
    · rename_i b o hb
      split at h
      · rename_i d hd
        exact ⟨_, λw' _ => by rw [run_v, hb, zIa hT hd]; rfl, h⟩
      · exact takeV (by rw [hb] at h; rw [hb]; exact h)
    · exact takeV h
  · unfold nilS at h
    split at h
    · rename_i a ha
      simp only [ha]
      exact ⟨_, λw' _ => rfl, h⟩
    · exact h.elim
  · rename_i t i
    unfold extS at h
    split at h
    · rename_i vs hv
      rw [nth_eq] at h
      split at h
      · rename_i v hvv
        have : vs[i]? = some v := by simpa using hvv
        exact ⟨v, λw' _ => by simp only [hv, Instr.extract, this]; rfl, h⟩
      · exact h.elim
    · exact h.elim
  · rw [zAY, zAY] at h
    exact ⟨_, λw' _ => by simp [Instr.makeFunc], h⟩
  all_goals first | exact takeV h | (rw [zKL] at h; exact takeV h) | skip
  · rename_i c
    have bi : ∀ b s, c.callee = .builtin b -> (∀ consts, builtin b c.argTypes o.type consts (c.args.map (ev F)) = (do let x <- s; pure (Next.value x))) ->
        (∃ v, (∀ w', Fr D w w' -> (do let x <- s; pure (Next.value x) : Sem Next).run P w' = .ok (.value v) w') /\ k v) ->
        ∃ v, (∀ w', Fr D w w' -> (do let d <- resolve (ev F) c o.type; invoke d.target d.args : Sem Next).run P w' = .ok (.value v) w') /\ k v := by
      intro b s hc hb h
      have : (do let d <- resolve (ev F) c o.type; invoke d.target d.args : Sem Next) = (do let x <- s; pure (Next.value x)) := by
        simp only [resolve, hc, pure_bind, invoke]
        exact hb _
      rw [this]; exact h
    split at h
    · rename_i b hb
      split at h
      · split at h
        · rename_i x t hx ht
          have hx' : c.args = #[x] := by rw [<- Array.toArray_toList (xs := c.args), hx]
          have ht' : c.argTypes = #[t] := by rw [<- Array.toArray_toList (xs := c.argTypes), ht]
          unfold lenS at h
          split at h
          · rename_i a n cc hv
            split at h
            · rename_i h1
              obtain ⟨e, he⟩ := Tab.slice hT h1
              refine bi _ (Builtin.len_ c.argTypes o.type (c.args.map (ev F))) hb (λ_ => rfl) ⟨_, λw' _ => ?_, h⟩
              rw [run_v, hx', ht']; simp only [List.map_toArray, List.map_cons, List.map_nil, hv, zEw he]
              rfl
            · exact h.elim
          · rename_i s hv
            split at h
            · rename_i h1
              have he := Tab.string hT h1
              refine bi _ (Builtin.len_ c.argTypes o.type (c.args.map (ev F))) hb (λ_ => rfl) ⟨_, λw' _ => ?_, h⟩
              rw [run_v, hx', ht']; simp only [List.map_toArray, List.map_cons, List.map_nil, hv, zDz he]
              rfl
            · exact h.elim
          · rw [zAY] at h; exact bi _ _ hb (λ_ => rfl) (takeV h)
        · exact h.elim
      all_goals first
        | exact h.elim
        | (rw [zAY] at h; exact bi _ _ hb (λ_ => rfl) (takeV h))
    · exact h.elim
  all_goals exact h.elim
def drawStep (P : Program) (T : Tab) (n : Nat) (D : Nat -> Prop) (all : List Oper) (i : Nat) (ih : (Nat -> Value) -> ((Nat -> Value) -> World -> Prop) -> (List PanicEntry -> World -> Prop) -> World -> Prop)
    (F : Nat -> Value) (k : (Nat -> Value) -> World -> Prop) (pn : List PanicEntry -> World -> Prop) (w : World) : Prop :=
  match nth all i with
    | none => False
    | some o => match o.guard with
      | none => bif takeK o then takeS P T D o F (λv => putS n F o.dst v λF' => ih F' k pn w) w
          else opS P T o F (λv w' => Fr D w w' /\ putS n F o.dst v λF' => ih F' k pn w') pn w
      | some (j, want) => match nth all j with
        | some g => match g.dst with
          | some d => match F d with
            | .bool b => match Nat.blt d n with
              | true => match want with
                | true => condS b
                    (bif takeK o then takeS P T D o (upd F d (.bool true)) (λv => putS n (upd F d (.bool true)) o.dst v λF' => ih F' k pn w) w
                      else opS P T o (upd F d (.bool true)) (λv w' => Fr D w w' /\ putS n (upd F d (.bool true)) o.dst v λF' => ih F' k pn w') pn w)
                    (putS n (upd F d (.bool false)) o.dst undef λF' => ih F' k pn w)
                | false => condS b
                    (putS n (upd F d (.bool true)) o.dst undef λF' => ih F' k pn w)
                    (bif takeK o then takeS P T D o (upd F d (.bool false)) (λv => putS n (upd F d (.bool false)) o.dst v λF' => ih F' k pn w) w
                      else opS P T o (upd F d (.bool false)) (λv w' => Fr D w w' /\ putS n (upd F d (.bool false)) o.dst v λF' => ih F' k pn w') pn w)
              | false => False
            | .tuple _ => putS n F o.dst undef λF' => ih F' k pn w
            | _ => False
          | none => False
        | none => False
def drawS (P:Program) (T:Tab) (n:Nat) (D:Nat->Prop) (all:List Oper) (σ:List Nat):(Nat->Value)->((Nat->Value)->World->Prop)->(List PanicEntry->World->Prop)->World->Prop:=
 List.rec (motive:=λ_=>(Nat->Value)->((Nat->Value)->World->Prop)->(List PanicEntry->World->Prop)->World->Prop) (λF k _ w=>k F w) (λi _ ih=>drawStep P T n D all i ih) σ
theorem zLq(P:Program)(T:Tab)(n:Nat)(D:Nat->Prop)(all:List Oper)(i:Nat)(r:List Nat)(F:Nat->Value)(k:(Nat->Value)->World->Prop)(pn:List PanicEntry->World->Prop)(w:World):
  drawS P T n D all (i::r) F k pn w=drawStep P T n D all i (drawS P T n D all r) F k pn w:=rfl
def noDefs (ops:Array Oper):Bool:=ops.all λo=>!isDef o.op
def ordB (ops:Array Oper):List Nat->Array Bool->Bool
 |[],listed=>(Region.ready .any ops listed).isEmpty
 |i::r,listed=>match ops[i]? with
  |none=>false
  |some o=>(bif takeK o then Region.free .any ops listed i && (Region.ready .any ops listed).contains i else Region.ready .any ops listed==[i]) && ordB ops r (listed.setIfInBounds i true)
def ordOK (ops:Array Oper) (σ:List Nat):Bool:=Region.noSelect ops && noDefs ops && (σ.length==ops.size) && ordB ops σ (Array.replicate ops.size false)
section
variable {ops:Array Oper} {Q:Exit->Act->World->Prop} {md:Region.Mode} {S:World->Prop} {r:Option Nat}
theorem zFO{ops:Array Oper}(h:noDefs ops=true){o:Oper}(hj:ops[j]? = some o):∀c,o.op≠.defer c:=by
 intro c hc
 have:=(Array.all_eq_true'.1 h) o (Array.mem_of_getElem? hj)
 rw [hc] at this;cases this
theorem zEA{o:Oper}{v:Value}{a:Act}(hnd:noDefs ops=true)(hi:ops[i]? = some o)(hy:YieldsIf P ops S o v a)
  {K:Act->World->Prop}(hS:S w)(h:K (a.put o.dst v) w):wpOpIn (fw r) 0 P ops Q i K a w:=by
 unfold Go.wpOpIn
 simp only [hi]
 rcases hy with ⟨hw,hv⟩|⟨hw,rfl⟩
 ·simp only [hw,if_true,Oper.wpIn,Oper.semAt_eq _ _ _ (zFO hnd hi),hv w hS,Oper.uponIn];exact⟨λ_ _=>trivial,h⟩
 ·simp only [hw,Bool.false_eq_true,if_false];exact⟨λ_ _=>trivial,h⟩
theorem zKu{oi oj:Oper}{v:Value}(hnd:noDefs ops=true)(hj:ops[j]? = some oj)(hap:oi.apart ops oj=true)
  (hsi:∀cs b,oi.op≠.select cs b)(hsj:∀cs b,oj.op≠.select cs b)
  (hQ:∀c a w,Q (.panic c) (a.put oi.dst v) w->Q (.panic c) a w){K:Act->World->Prop}{a:Act}
  (hy:YieldsIf P ops S oi v a)(h:wpOpIn (fw r) 0 P ops Q j K (a.put oi.dst v) w):
  wpOpIn (fw r) 0 P ops Q j (λa' w'=>YieldsIf P ops S oi v a'/\K (a'.put oi.dst v) w') a w:=by
 obtain⟨h1,h2,h3⟩:=Oper.apart_spec hap
 have keep:∀(a:Act),YieldsIf P ops S oi v a->∀u,YieldsIf P ops S oi v (a.put oj.dst u):=λa hy u =>
  hy.of_same (execOp_put oi hsi a oj.dst u h3) (wanted_put oi a oj.dst u h3)
 have hnj:=zFO hnd hj
 unfold wpOpIn at *
 simp only [hj] at *
 rw [wanted_put oj a oi.dst v h1] at h
 split
 ·rename_i hw
  simp only [hw,if_true] at h
  unfold Oper.wpIn at *
  refine⟨λ_ _=>trivial,?_⟩
  have h:=h.2
  rw [Oper.semAt_eq _ _ _ hnj,execOp_put oj hsj a oi.dst v h1] at h
  rw [Oper.semAt_eq _ _ _ hnj]
  generalize (execOp a.eval oj).run P w=res at h ⊢
  cases res with
  |ok x w' =>
   cases x <;> simp only [Oper.uponIn] at h ⊢
   case value u=>exact⟨keep a hy u,by rw [<-Act.put_comm a v u h2];exact h⟩
   case skip=>exact⟨keep a hy _,by rw [<-Act.put_comm a v undef h2];exact h⟩
   case defer d =>
    have keepD:YieldsIf P ops S oi v { a with defers:=d::a.defers }:=hy.of_same rfl rfl
    refine⟨keep _ keepD _,?_⟩
    rw [<-Act.put_comm _ v undef h2,<-Act.put_defers]
    exact h
   case enter f args =>
    refine⟨h.1,CallsIn.mono h.2 λe w'' he=>?_⟩
    cases e with
    |returned u=>exact⟨keep a hy u,by rw [<-Act.put_comm a v u h2];exact he⟩
    |panicked c=>exact hQ _ _ _ he
    |outgrown=>exact he
   case row row args=>exact⟨h.1,RowsIn.mono h.2 λu w'' he=>⟨keep a hy u,by rw [<-Act.put_comm a v u h2];exact he⟩⟩
   case round l f tmps assign body =>
    refine⟨h.1,RoundIn.mono h.2 λe w'' he=>?_⟩
    cases e with
    |returned u=>exact⟨keep a hy u,by rw [<-Act.put_comm a v u h2];exact he⟩
    |panicked c=>exact hQ _ _ _ he
    |outgrown=>exact he
  |halt x w' =>
   cases x <;> simp only [Oper.uponIn] at h ⊢
   case panic u=>exact hQ _ _ _ h
 ·rename_i hw
  simp only [hw] at h
  exact⟨λ_ _=>trivial,keep a hy _,by rw [<-Act.put_comm a v undef h2];exact h.2⟩
def AnyH (P:Program) (r:Option Nat) (md:Region.Mode) (ops:Array Oper) (Q:Exit->Act->World->Prop) (S:World->Prop):Nat->Array Bool->Act->World->Prop
 |0,listed,a,w=>Region.ready md ops listed=[]/\Q .normal a w
 |fuel+1,listed,a,w =>
  (Region.ready md ops listed=[]->Q .normal a w) /\
  ∀i∈Region.ready md ops listed,wpOpIn (fw r) 0 P ops Q i (λa' w'=>S w'/\AnyH P r md ops Q S fuel (listed.setIfInBounds i true) a' w') a w
theorem zBu:∀(fuel:Nat) (listed:Array Bool) (a:Act) (w:World),AnyH P r md ops Q S fuel listed a w->wpAnyIn (fw r) 0 P md ops Q fuel listed a w
 |0,_,_,_,h=>h
 |fuel+1,_,_,_,h=>⟨h.1,λi hi=>wpOpIn_mono (λa' w' h'=>zBu fuel _ a' w' h'.2) (h.2 i hi)⟩
theorem zLg{oi:Oper}{v:Value}(hnd:noDefs ops=true)(hi:ops[i]? = some oi)(hsel:∀(j:Nat) (o:Oper) cs b,ops[j]? = some o->o.op≠.select cs b)
  (hQ:∀c a w,Q (.panic c) (a.put oi.dst v) w->Q (.panic c) a w):
  ∀(fuel:Nat) (listed:Array Bool) (a:Act) (w:World),
   (∀j oj,ops[j]? = some oj->j≠i->listed.getD j true=false->(∀e∈oj.after,Region.binds md e=true->e.on≠i)->oi.apart ops oj=true) ->
   i∈Region.ready md ops listed->YieldsIf P ops S oi v a->S w ->
   AnyH P r md ops Q S fuel (listed.setIfInBounds i true) (a.put oi.dst v) w->AnyH P r md ops Q S (fuel+1) listed a w:=by
 intro fuel
 induction fuel with
 |zero =>
  intro listed a w _ hr hy hS H
  refine⟨λh=>(by rw [h] at hr;cases hr),λj hj=>?_⟩
  by_cases hji:j=i
  ·subst hji;exact zEA hnd hi hy hS ⟨hS,H⟩
  ·have:=ready_mono hj hji
   rw [H.1] at this
   cases this
 |succ fuel ih =>
  intro listed a w hfree hr hy hS H
  refine⟨λh=>(by rw [h] at hr;cases hr),λj hj=>?_⟩
  by_cases hji:j=i
  ·subst hji;exact zEA hnd hi hy hS ⟨hS,H⟩
  ·have h1:=H.2 j (ready_mono hj hji)
   obtain⟨hjun,oj,hoj,hall⟩:=mem_ready.1 hj
   have hnot:∀e∈oj.after,Region.binds md e=true->e.on≠i:=λe he hb heq=>by
    have h1:=hall e he hb
    have h0:=(mem_ready.1 hr).1
    rw [heq] at h1
    rcases Nat.lt_or_ge i listed.size with h'|h'
    ·simp [h'] at h0 h1;rw [h0] at h1;cases h1
    ·simp [Array.getElem?_eq_none h'] at h1
   have h2:=zKu hnd hoj (hfree j oj hoj hji hjun hnot) (λcs b=>hsel i oi cs b hi) (λcs b=>hsel j oj cs b hoj) hQ hy h1
   have hfree':∀k ok,ops[k]? = some ok->k≠i->(listed.setIfInBounds j true).getD k true=false ->
     (∀e∈ok.after,Region.binds md e=true->e.on≠i)->oi.apart ops ok=true:=λk ok hk hki hun hno=>by
    refine hfree k ok hk hki ?_ hno
    by_cases hjk:j=k
    ·subst hjk;exact hjun
    ·rw [getD_set_ne true hjk] at hun;exact hun
   refine wpOpIn_mono (λa' w' h3=>⟨h3.2.1,ih (listed.setIfInBounds j true) a' w' hfree' (ready_mono hr (Ne.symm hji)) h3.1 h3.2.1 ?_⟩) h2
   rw [Array.setIfInBounds_comm _ _ hji]
   exact h3.2.2
theorem zCY{oi:Oper}{v:Value}{fuel:Nat}{listed:Array Bool}{a:Act}(hnd:noDefs ops=true)(hi:ops[i]? = some oi)
  (hs:Region.noSelect ops=true)(hf:Region.free md ops listed i=true)(hr:(Region.ready md ops listed).contains i=true)
  (hQ:∀c a w,Q (.panic c) (a.put oi.dst v) w->Q (.panic c) a w)(hy:YieldsIf P ops S oi v a)(hS:S w)
  (h:AnyH P r md ops Q S fuel (listed.setIfInBounds i true) (a.put oi.dst v) w):AnyH P r md ops Q S (fuel+1) listed a w:=
 zLg hnd hi (Region.noSelect_spec hs) hQ fuel listed a w (Region.free_spec hi hf) (by simpa using hr) hy hS h
theorem zBv{rs:List Nat}{fuel:Nat}{listed:Array Bool}{a:Act}(hr:Region.ready md ops listed=rs)(hne:rs≠[])
  (h:∀i∈rs,wpOpIn (fw r) 0 P ops Q i (λa' w'=>S w'/\AnyH P r md ops Q S fuel (listed.setIfInBounds i true) a' w') a w):AnyH P r md ops Q S (fuel+1) listed a w:=
 ⟨λh0=>absurd (hr ▸ h0) hne,hr ▸ h⟩
end
theorem zDg{r:Option Nat}{ops:Array Oper}{Q:Exit->Act->World->Prop}{A B:World->Prop}(h:∀w,A w->B w):∀(fuel:Nat) (listed:Array Bool) (a:Act) (w:World),
  AnyH P r .any ops Q A fuel listed a w->AnyH P r .any ops Q B fuel listed a w
 |0,_,_,_,hh=>hh
 |fuel+1,_,_,_,hh=>⟨hh.1,λi hi=>wpOpIn_mono (λa' w' h'=>⟨h _ h'.1,zDg h fuel _ a' w' h'.2⟩) (hh.2 i hi)⟩
theorem zLU(hT:T.ok P=true){r:Option Nat}(D:Nat->Prop)(ops:Array Oper)(F0:Nat->Value)(ws:Nat->Bool)(hws:∀t,wrL ops.toList t=true->ws t=true)(k:(Nat->Value)->World->Prop)(pn:List PanicEntry->World->Prop)(hs:Region.noSelect ops=true)(hnd:noDefs ops=true):
  ∀(σ:List Nat) (listed:Array Bool) (F:Nat->Value) (w:World) (a:Act),Rel n F a->agree ws F0 F->ordB ops σ listed=true->drawS P T n D ops.toList σ F k pn w ->
   AnyH P r .any ops (LQ n F0 ws k (λ_=>pn)) (Fr D w) σ.length listed a w:=by
 intro σ
 induction σ with
 |nil =>
  intro listed F w a ha h0 ho h
  exact⟨by simpa [ordB] using ho,F,ha,h0,h⟩
 |cons i rest ih =>
  intro listed F w a ha h0 ho h
  simp only [ordB] at ho
  rw [zLq] at h
  unfold drawStep at h
  rw [nth_eq] at h
  split at h
  ·exact h.elim
  rename_i o hoi
  have hi:ops[i]? = some o:=by simpa using hoi
  simp only [hi,Bool.and_eq_true] at ho
  have hwo:∀t,isD o.dst t=true->ws t=true:=by
   intro t ht
   refine hws t ?_
   have hm:o∈ops.toList:=List.mem_of_getElem? hoi
   clear hoi hi h ho
   generalize ops.toList=l at hm
   induction l with
   |nil=>cases hm
   |cons x r ihl =>
    simp only [wrL,Bool.or_eq_true]
    rcases List.mem_cons.1 hm with rfl|hm
    ·exact .inl (by unfold wrO;rw [ht];rfl)
    ·exact .inr (ihl hm)
  have step:∀{G:Nat->Value} {v:Value} {w':World},Rel n G a->agree ws F0 G->putS n G o.dst v (λF'=>drawS P T n D ops.toList rest F' k pn w') ->
    AnyH P r .any ops (LQ n F0 ws k (λ_=>pn)) (Fr D w') rest.length (listed.setIfInBounds i true) (a.put o.dst v) w':=by
   intro G v w' hG h0G hp
   obtain⟨F',h1,h2,h3⟩:=hG.put hp
   exact ih _ F' w' _ h1 (λt ht=>by
    rw [h2 t (by cases hd:isD o.dst t;rfl;have:=hwo t hd;rw [ht] at this;cases this),h0G t ht]) ho.2 h3
  have hpan:∀c (a:Act) (w:World) (v:Value),LQ n F0 ws k (λ_=>pn) (.panic c) (a.put o.dst v) w->LQ n F0 ws k (λ_=>pn) (.panic c) a w:=by
   intro c a w v hq
   simp only [LQ] at hq ⊢
   obtain⟨F',h1,h2,h3⟩:=hq
   have hsz:(a.put o.dst v).tmps.size=a.tmps.size:=by cases hd:o.dst <;> simp [Act.put]
   have hdf:(a.put o.dst v).defers=a.defers:=by cases hd:o.dst <;> simp [Act.put]
   refine⟨λt=>bif Nat.beq t 4294967296 then F' 4294967296 else a.tmps.getD t undef,⟨by rw [<-hsz];exact h1.size,h1.le,by rw [<-hdf];exact h1.defers,λt ht=>?_⟩,λt ht=>?_,h3⟩
   ·cases hq:Nat.beq t 4294967296 with
    |false=>simp only [hq,cond_false]
    |true=>exact absurd (Nat.eq_of_beq_eq_true hq) ht
   ·cases hq:Nat.beq t 4294967296 with
    |true=>simp only [hq,cond_true];rw [<-Nat.eq_of_beq_eq_true hq];exact h2 t ht
    |false =>
     simp only [hq,cond_false]
     rw [<-h2 t ht,<-h1.get t (λe=>by subst e;simp at hq)]
     cases hd:o.dst with
     |none=>rfl
     |some d =>
      have hne:d≠t:=by
       rintro rfl
       have:=hwo d (by simp [isD,hd])
       rw [ht] at this;cases this
      simp [Act.put,Array.getD_eq_getD_getElem?,Array.getElem?_setIfInBounds,hne]
  have wanted:∀{G:Nat->Value},Rel n G a->agree ws F0 G->Region.wanted o (yielded ops a.tmps)=true ->
    (bif takeK o then takeS P T D o G (λv=>putS n G o.dst v λF'=>drawS P T n D ops.toList rest F' k pn w) w
     else opS P T o G (λv w'=>Fr D w w'/\putS n G o.dst v λF'=>drawS P T n D ops.toList rest F' k pn w') pn w) ->
    AnyH P r .any ops (LQ n F0 ws k (λ_=>pn)) (Fr D w) (i::rest).length listed a w:=by
   intro G hG h0G hw hh
   cases hk:takeK o with
   |true =>
    simp only [hk,cond_true] at hh ho
    rw [Bool.and_eq_true] at ho
    obtain⟨v,h1,h2⟩:=zIi hT hh
    refine zCY hnd (i:=i) (oi:=o) (v:=v) hi hs ho.1.1 ho.1.2 (λc a w=>hpan c a w v) (.inl ⟨hw,λw' hw'=>?_⟩) (Fr.refl D w) (step hG h0G h2)
    rw [hG.eval];exact h1 w' hw'
   |false =>
    simp only [hk,cond_false] at hh ho
    have hr:Region.ready .any ops listed=[i]:=by simpa using ho.1
    refine zBv hr (by simp) (λj hj=>?_)
    obtain rfl:j=i:=by simpa using hj
    unfold wpOpIn
    simp only [hi,hw,if_true]
    refine opS_wp hT hh hG (λv w' hv=>?_) (λc w' hc=>⟨G,hG,h0G,hc⟩)
    exact⟨hv.1,zDg (λu hu=>hv.1.trans hu) _ _ _ _ (step hG h0G hv.2)⟩
  have skip:∀{G:Nat->Value},Rel n G a->agree ws F0 G->Region.wanted o (yielded ops a.tmps)=false->putS n G o.dst undef (λF'=>drawS P T n D ops.toList rest F' k pn w) ->
    AnyH P r .any ops (LQ n F0 ws k (λ_=>pn)) (Fr D w) (i::rest).length listed a w:=by
   intro G hG h0G hw hh
   cases hk:takeK o with
   |true =>
    simp only [hk,cond_true] at ho
    rw [Bool.and_eq_true] at ho
    exact zCY hnd (i:=i) (oi:=o) (v:=undef) hi hs ho.1.1 ho.1.2 (λc a w=>hpan c a w undef) (.inr ⟨hw,rfl⟩) (Fr.refl D w) (step hG h0G hh)
   |false =>
    simp only [hk,cond_false] at ho
    have hr:Region.ready .any ops listed=[i]:=by simpa using ho.1
    refine zBv hr (by simp) (λj hj=>?_)
    obtain rfl:j=i:=by simpa using hj
    unfold wpOpIn
    simp only [hi,hw]
    exact⟨λ_ _=>trivial,Fr.refl D w,step hG h0G hh⟩
  split at h
  ·rename_i hg
   exact wanted ha h0 (by simp [Region.wanted,hg]) h
  rename_i j want hg
  rw [nth_eq] at h
  split at h
  case h_2=>exact h.elim
  case h_1 g hgj =>
  split at h
  case h_2=>exact h.elim
  case h_1 d hd =>
  have hy:d<n->yielded ops a.tmps j=match F d with | .bool b=>some b|_=>none:=by
   intro hdn
   have hgj':ops[j]? = some g:=by simpa using hgj
   have:=ha.get d (Nat.ne_of_lt (Nat.lt_of_lt_of_le hdn ha.le))
   have hs:=ha.size
   simp only [yielded,hgj',Option.bind_some,hd]
   have e:a.tmps[d]? = some (F d):=by
    rw [<-this,Array.getD_eq_getD_getElem?]
    rw [Array.getElem?_eq_getElem (by rw [hs];exact hdn)];rfl
   rw [e]
   cases F d <;> simp
  split at h
  ·rename_i b hb
   have hF:upd F d (.bool b)=F:=by rw [<-hb];exact zEk F d
   split at h
   case h_2=>exact h.elim
   case h_1 hdn =>
   have hdn':d<n:=by simpa [Nat.blt_eq] using hdn
   have hy:=hy hdn'
   simp only [hb] at hy
   cases want <;> cases b <;> simp only [condS,hF] at h <;> first
    |exact wanted ha h0 (by simp [Region.wanted,hg,hy]) h
    |exact skip ha h0 (by simp [Region.wanted,hg,hy]) h
  ·rename_i vs hb
   have hy:yielded ops a.tmps j=none:=by
    by_cases hdn:d<n
    ·rw [hy hdn];simp only [hb]
    ·have hgj':ops[j]? = some g:=by simpa using hgj
     have e:a.tmps[d]? = none:=Array.getElem?_eq_none (by rw [ha.size];exact Nat.le_of_not_lt hdn)
     simp only [yielded,hgj',Option.bind_some,hd,e]
   exact skip ha h0 (by simp [Region.wanted,hg,hy]) h
  ·exact h.elim
def upF:Nat->Nat->List Nat
 |0,_=>[]
 |m+1,i=>i::upF m (i+1)
theorem drawR(hT:T.ok P=true)(hm:P.follows .mixedOrders=true)(D:Nat->Prop)(σ:List Nat){ops:Array Oper}{Q:KS}{F:Nat->Value}(ho:ordOK ops σ=true)
  (h:∀w',Stp w w'->w'.heap=w.heap->drawS P T n D ops.toList σ F Q.nrm (λc w=>∀F',agree (wr (.region i ops true)) F F'->Q.pan F' c w) w'):DeepS P T n (.region i ops true) Q F w:=by
 rw [zAN]
 intro md hmd a ha
 simp only [ordOK,Bool.and_eq_true] at ho
 have hd:=zLU hT (r:=md) D ops F (wr (.region i ops true)) (λt ht=>ht) Q.nrm (λc w=>∀F',agree (wr (.region i ops true)) F F'->Q.pan F' c w) ho.1.1.1 ho.1.1.2 σ (Array.replicate ops.size false) F _ a ha (λ_ _=>rfl) ho.2 (h _ ⟨Ext.drew w⟩ rfl)
 have e:σ.length=ops.size:=by simpa using ho.1.2
 rw [e] at hd
 refine Code.wpIn_mono ?_ (wpIn_region_any hm (zBu _ _ _ _ hd))
 intro e a' w' hq
 cases e <;> simp only [LQ] at hq <;> simp only [KS.lift]
 ·exact hq
 ·obtain⟨F',h1,h2,h3⟩:=hq;exact⟨F',h1,h2,h3 F' h2⟩
end
end Go.W
set_option linter.unusedSimpArgs false
namespace Go.W
open Go
variable {B N i j k m n:Nat} {D:Nat -> Prop} {P:Program} {a a':Option Addr} {u u' w w':World}
section
variable {P:Program} {T:Tab} {n:Nat} {k k':Value->World->Prop} {pn pn':List PanicEntry->World->Prop} {w:World}
theorem zBa{s:Sem Value}(hk:∀v w,k v w->k' v w)(hp:∀c w,pn c w->pn' c w)(h:SemV P s k pn w):SemV P s k' pn' w:=by
 simp only [zCC] at *
 generalize s.run P w=r at *
 cases r with
 |ok v w'=>exact hk _ _ h
 |halt x w'=>cases x <;> first|exact hp _ _ h|exact h
theorem zLM{s:Sem Unit}(hk:∀v w,k v w->k' v w)(hp:∀c w,pn c w->pn' c w)(h:SemU P s k pn w):SemU P s k' pn' w:=by
 simp only [zDM] at *
 generalize s.run P w=r at *
 cases r with
 |ok v w'=>exact hk _ _ h
 |halt x w'=>cases x <;> first|exact hp _ _ h|exact h
theorem zGu{f:FuncId}{args:Array Value}(hk:∀v w,k v w->k' v w)(hp:∀c w,pn c w->pn' c w)(h:CallS P f args k pn w):CallS P f args k' pn' w:=by
 simp only [zA8] at *
 exact⟨h.1,h.2.mono λe w' he=>by cases e <;> first|exact hk _ _ he|exact hp _ _ he|exact he⟩
theorem zJ5{l:Nat}{f:FuncId}{tmps:Array Value}{assign body:Code}(hk:∀v w,k v w->k' v w)(hp:∀c w,pn c w->pn' c w)(h:RoundS P l f tmps assign body k pn w):RoundS P l f tmps assign body k' pn' w:=
 ⟨h.out.mono λe w' he=>by cases e <;> first|exact hk _ _ he|exact hp _ _ he|exact he⟩
theorem zBl{s:Sem Next}(hk:∀v w,k v w->k' v w)(hp:∀c w,pn c w->pn' c w)(h:NextS P s k pn w):NextS P s k' pn' w:=by
 simp only [zAR] at *
 generalize s.run P w=r at *
 cases r with
 |ok x w'=>cases x <;> first|exact hk _ _ h|exact zGu hk hp h|exact zJ5 hk hp h|exact h
 |halt x w'=>cases x <;> first|exact hp _ _ h|exact h
theorem zLR{op:BinOp}{x y:Int}{alt alt':Prop}(hk:∀v w,k v w->k' v w)(ha:alt->alt')(h:cmpS op x y k alt w):cmpS op x y k' alt' w:=by
 cases op <;> simp only [cmpS] at * <;> first|exact⟨λp=>hk _ _ (h.t p),λp=>hk _ _ (h.f p)⟩|exact ha h
theorem zJn{o:Oper}{F:Nat->Value}(hk:∀v w,k v w->k' v w)(hp:∀c w,pn c w->pn' c w)(h:opS P T o F k pn w):opS P T o F k' pn' w:=by
 unfold opS at *
 split at h <;> rename_i ho <;> (try simp only [ho])
 ·exact hk _ _ h
 ·exact hk _ _ h
 ·unfold pickS at *;split at h
  ·split at h <;> exact hk _ _ h
  ·exact h.elim
 ·unfold binS at *
  split at h
  ·rename_i kx m ky n' hx hy
   try simp only
   cases hk':kindEq kx ky with
   |false=>simp only [hk',cond_false] at h
   |true =>
    simp only [hk',cond_true] at h ⊢
    split at h <;> (try simp only [zDj,zDK,zCB] at *) <;> first|exact hk _ _ h|exact⟨h.1,hk _ _ h.2⟩|exact zLR hk (zBa hk hp) h
  ·exact zBa hk hp h
 ·unfold unS at *;split at h
  ·exact hk _ _ h
  ·exact zBa hk hp h
 ·unfold fieldS at *;split at h
  ·rename_i hx
   try simp only [hx]
   split at h
   ·exact hk _ _ h
   ·exact zBa hk hp (by first|exact h|simpa only [hx] using h)
  ·exact zBa hk hp h
 ·unfold extS at *;split at h
  ·split at h
   ·exact hk _ _ h
   ·exact h.elim
  ·exact h.elim
 ·exact hk _ _ h
 ·unfold callS at *
  split at h
  ·unfold fnS at *
   split at h
   ·exact zGu hk hp h
   ·exact zBl hk hp h
  ·exact zBl hk hp h
  ·split at h
   ·split at h
    ·unfold lenS at *
     split at h
     ·split at h
      ·exact hk _ _ h
      ·exact h.elim
     ·split at h
      ·exact hk _ _ h
      ·exact h.elim
     ·exact zBl hk hp h
    ·exact h.elim
   all_goals first|exact zBa hk hp h|exact zBl hk hp h
 all_goals first|exact zBa hk hp h|exact zLM hk hp h|exact h.elim|(unfold nilS at *;split at h;exact hk _ _ h;exact zBl hk hp h)|exact zBl hk hp h
theorem zMg{F:Nat->Value}{d:Option Nat}{v:Value}{q q':(Nat->Value)->Prop}(hk:∀G,agree (isD d) F G->q G->q' G)(h:putS n F d v q):putS n F d v q':=by
 cases d with
 |none=>exact hk _ (λ_ _=>rfl) h
 |some d =>
  simp only [putS] at *
  split at h
  ·refine hk _ (λt ht=>?_) h
   simp only [isD] at ht
   simp [upd,ht]
  ·exact h
theorem zMa(all : List Oper){q q' : (Nat -> Value) -> World -> Prop}{p p' : (Nat -> Value) -> List PanicEntry -> World -> Prop} : ∀ (l : List Oper) (F : Nat -> Value) (w : World),
    (∀ G w, agree (wrL l) F G -> q G w -> q' G w) -> (∀ G c w, agree (wrL l) F G -> p G c w -> p' G c w) -> opsS P T n all l F q p w -> opsS P T n all l F q' p' w := by
  intro l
  induction l with
  | nil => intro F w hk _ h; exact hk _ _ (λ_ _ => rfl) h
  | cons o rest ih =>
    intro F w hk hp h
    have step : ∀ {G : Nat -> Value} {v : Value} {w' : World}, agree (λ_ => false) F G -> putS n G o.dst v (λF' => opsS P T n all rest F' q p w') -> putS n G o.dst v (λF' => opsS P T n all rest F' q' p' w') := by
      intro G v w' hG hh
      have ag : ∀ {G' H : Nat -> Value}, agree (isD o.dst) G G' -> agree (wrL rest) G' H -> agree (wrL (o :: rest)) F H := by
        intro G' H hG' hH t ht
        simp only [wrL, wrO, Bool.or_eq_false_iff] at ht
        rw [hH t ht.2, hG' t ht.1.1, hG t rfl]
      exact zMg (λG' hG' hq => ih G' w' (λH w'' hH hqq => hk H w'' (ag hG' hH) hqq) (λH c w'' hH hqq => hp H c w'' (ag hG' hH) hqq) hq) hh
    have sw : ∀ {d : Nat} {b : Bool}, F d = .bool b -> agree (λ_ => false) F (upd F d (.bool b)) := by
      intro d b hb t _
      rw [<- hb, zEk]
    have hp0 : ∀ {G : Nat -> Value}, agree (λ_ => false) F G -> ∀ c w, p G c w -> p' G c w := λhG c w h => hp _ c w (λt _ => hG t rfl) h
    by_cases hdef : ∃ c, o.op = .defer c
    · obtain ⟨c, hc⟩ := hdef
      simp only [zC9, opsStep, hc, defS] at h ⊢
      split at h
      case h_2 => exact h.elim
      rename_i f hr hg hd hcal
      split at h
      case h_2 => exact h.elim
      rename_i fn first cap hf
      have ag : ∀ {H : Nat -> Value}, agree (wrL rest) (upd F 4294967296 (consD (.agg (.func fn first cap :: evL F c.args.toList).toArray) (F 4294967296))) H -> agree (wrL (o :: rest)) F H := by
        intro H hH t ht
        simp only [wrL, wrO, hc, isDef, Bool.true_and, Bool.or_eq_false_iff] at ht
        rw [hH t ht.2]; unfold upd; rw [ht.1.2]; rfl
      exact ih _ w (λH w'' hH hqq => hk H w'' (ag hH) hqq) (λH c w'' hH hqq => hp H c w'' (ag hH) hqq) h
    have hstep : ∀ (q : (Nat -> Value) -> World -> Prop) (p : (Nat -> Value) -> List PanicEntry -> World -> Prop), opsStep P T n all o (opsS P T n all rest) F q p w = (match o.guard with
      | none => opS P T o F (λv w' => putS n F o.dst v λF' => opsS P T n all rest F' q p w') (p F) w
      | some (j, want) => match nth all j with
        | some g => match g.dst with
          | some d => match F d with
            | .bool b => match Nat.blt d n with
              | true => match want with
                | true => condS b (opS P T o (upd F d (.bool true)) (λv w' => putS n (upd F d (.bool true)) o.dst v λF' => opsS P T n all rest F' q p w') (p (upd F d (.bool true))) w)
                    (putS n (upd F d (.bool false)) o.dst undef λF' => opsS P T n all rest F' q p w)
                | false => condS b (putS n (upd F d (.bool true)) o.dst undef λF' => opsS P T n all rest F' q p w)
                    (opS P T o (upd F d (.bool false)) (λv w' => putS n (upd F d (.bool false)) o.dst v λF' => opsS P T n all rest F' q p w') (p (upd F d (.bool false))) w)
              | false => False
            | .tuple _ => putS n F o.dst undef λF' => opsS P T n all rest F' q p w
            | _ => False
          | none => False
        | none => False) := by
      intro q p
      unfold opsStep
      cases ho : o.op <;> first | rfl | exact absurd ⟨_, ho⟩ hdef
    rw [zC9, hstep] at h ⊢
    clear hstep
    cases hg : o.guard with
    | none => simp only [hg] at *; exact zJn (λv w' hv => step (λ_ _ => rfl) hv) (hp0 λ_ _ => rfl) h
    | some jw =>
      obtain ⟨j, want⟩ := jw
      simp only [hg] at *
      cases hj : nth all j with
      | none => simp only [hj] at h
      | some g =>
        simp only [hj] at h ⊢
        cases hd : g.dst with
        | none => simp only [hd] at h
        | some d =>
          simp only [hd] at h ⊢
          cases hF : F d <;> simp only [hF] at h ⊢
          case bool b =>
            cases hb : Nat.blt d n <;> simp only [hb] at h ⊢
            have := sw hF
            cases want <;> cases b <;> simp only [condS] at h ⊢ <;> first
              | exact zJn (λv w' hv => step this hv) (hp0 this) h
              | exact step this h
          case tuple vs => exact step (λ_ _ => rfl) h
theorem S_mono:∀(c:Code) (Q Q':KS) (F:Nat->Value) (w:World),S P T n c Q F w ->
  (∀G w,agree (wr c) F G->Q.nrm G w->Q'.nrm G w)->(∀i G w,agree (wr c) F G->Q.ext i G w->Q'.ext i G w)->(∀G w,agree (wr c) F G->Q.ret G w->Q'.ret G w)->(∀G p w,agree (wr c) F G->Q.pan G p w->Q'.pan G p w) ->
  S P T n c Q' F w:=by
 have deep:∀(c:Code) (Q Q':KS) (F:Nat->Value) (w:World),DeepS P T n c Q F w ->
  (∀G w,agree (wr c) F G->Q.nrm G w->Q'.nrm G w)->(∀i G w,agree (wr c) F G->Q.ext i G w->Q'.ext i G w)->(∀G w,agree (wr c) F G->Q.ret G w->Q'.ret G w)->(∀G p w,agree (wr c) F G->Q.pan G p w->Q'.pan G p w) ->
  DeepS P T n c Q' F w:=by
  intro c Q Q' F w h h1 h2 h3 h4
  simp only [zAN] at *
  intro md hmd a ha
  exact Code.wpIn_mono (zC7 (λG w _ hG hq=>⟨hG,h1 G w hG hq⟩) (λi G w hG hq=>⟨hG,h2 i G w hG hq⟩) (λG w hG hq=>⟨hG,h3 G w hG hq⟩) (λG c w hG hq=>⟨hG,h4 G c w hG hq⟩)) (h md hmd a ha)
 intro c
 induction c with
 |skip=>intro Q Q' F w h h1 _ _ _;exact h1 _ _ (λ_ _=>rfl) h
 |label l=>intro Q Q' F w h h1 _ _ _;exact h1 _ _ (λ_ _=>rfl) h
 |ret=>intro Q Q' F w h _ _ h3 _;exact h3 _ _ (λ_ _=>rfl) h
 |exit i=>intro Q Q' F w h _ h2 _ _;exact h2 _ _ _ (λ_ _=>rfl) h
 |region i ops draw =>
  intro Q Q' F w h h1 h2 h3 h4
  cases draw with
  |false=>simp only [S_skip,zAE,S_ret,S_exit,S_seq,S_cond,zAD,zAF,zAu,S_draw,S_loop,zAj,S_goto,zAt] at *;exact zMa _ _ _ _ h1 h4 h
  |true=>simp only [S_skip,zAE,S_ret,S_exit,S_seq,S_cond,zAD,zAF,zAu,S_draw,S_loop,zAj,S_goto,zAt] at *;exact deep _ _ _ _ _ h h1 h2 h3 h4
 |seq x y ihx ihy =>
  intro Q Q' F w h h1 h2 h3 h4
  simp only [S_skip,zAE,S_ret,S_exit,S_seq,S_cond,zAD,zAF,zAu,S_draw,S_loop,zAj,S_goto,zAt] at *
  have wl:∀{G:Nat->Value},agree (wr x) F G->agree (wr (.seq x y)) F G:=λhG t ht=>by simp only [wr,Bool.or_eq_false_iff] at ht;exact hG t ht.1
  have wlr:∀{G H:Nat->Value},agree (wr x) F G->agree (wr y) G H->agree (wr (.seq x y)) F H:=λhG hH t ht=>by simp only [wr,Bool.or_eq_false_iff] at ht;rw [hH t ht.2,hG t ht.1]
  refine ihx _ _ F w h ?_ (λi G w hG=>h2 i G w (wl hG)) (λG w hG=>h3 G w (wl hG)) (λG p w hG=>h4 G p w (wl hG))
  intro G w' hG hS
  exact ihy _ _ G w' hS (λH w hH=>h1 H w (wlr hG hH)) (λi H w hH=>h2 i H w (wlr hG hH)) (λH w hH=>h3 H w (wlr hG hH)) (λH p w hH=>h4 H p w (wlr hG hH))
 |cond c x y ihx ihy =>
  intro Q Q' F w h h1 h2 h3 h4
  simp only [S_skip,zAE,S_ret,S_exit,S_seq,S_cond,zAD,zAF,zAu,S_draw,S_loop,zAj,S_goto,zAt] at *
  have wl:∀{G:Nat->Value},agree (wr x) F G->agree (wr (.cond c x y)) F G:=λhG t ht=>by simp only [wr,Bool.or_eq_false_iff] at ht;exact hG t ht.1
  have wrr:∀{G:Nat->Value},agree (wr y) F G->agree (wr (.cond c x y)) F G:=λhG t ht=>by simp only [wr,Bool.or_eq_false_iff] at ht;exact hG t ht.2
  split at h
  ·rename_i b hb
   cases b
   ·exact ihy _ _ F w h (λH w hH=>h1 H w (wrr hH)) (λi H w hH=>h2 i H w (wrr hH)) (λH w hH=>h3 H w (wrr hH)) (λH p w hH=>h4 H p w (wrr hH))
   ·exact ihx _ _ F w h (λH w hH=>h1 H w (wl hH)) (λi H w hH=>h2 i H w (wl hH)) (λH w hH=>h3 H w (wl hH)) (λH p w hH=>h4 H p w (wl hH))
  ·exact h.elim
 |block i c ih =>
  intro Q Q' F w h h1 h2 h3 h4
  simp only [S_skip,zAE,S_ret,S_exit,S_seq,S_cond,zAD,zAF,zAu,S_draw,S_loop,zAj,S_goto,zAt] at *
  refine ih _ _ F w h h1 ?_ h3 h4
  intro j G w' hG hq
  cases hb:Nat.beq j i <;> simp only [hb] at hq ⊢
  ·exact h2 j G w' hG hq
  ·exact h1 G w' hG hq
 |scope c ih=>intro Q Q' F w h h1 h2 h3 h4;simp only [S_skip,zAE,S_ret,S_exit,S_seq,S_cond,zAD,zAF,zAu,S_draw,S_loop,zAj,S_goto,zAt] at *;exact ih _ _ F w h h1 h2 h3 h4
 |_=>intro Q Q' F w h h1 h2 h3 h4;simp only [S_skip,zAE,S_ret,S_exit,S_seq,S_cond,zAD,zAF,zAu,S_draw,S_loop,zAj,S_goto,zAt] at *;exact deep _ _ _ _ _ h h1 h2 h3 h4
theorem cutL(m:Nat)(exc slots:List Nat)(I:List Value->World->Prop){c x y:Code}{Q:KS}{F:Nat->Value}(hc:c=.seq x y)(hok:okB m exc slots x=true)
  (hx:S P T n x { Q with nrm:=λF' w'=>I (mapF F' slots) w' } F w)
  (hy:∀vs g w',vs.length=slots.length->I vs w'->S P T n y Q (hdF m exc (zipS slots vs) g F) w'):S P T n c Q F w:=by
 subst hc
 have hlen:∀(G:Nat->Value) l,(mapF G l).length=l.length:=by intro G l;induction l <;> simp_all [mapF]
 refine S_mono x _ _ F w hx ?_ (λ_ _ _ _ h=>h) (λ_ _ _ h=>h) (λ_ _ _ _ h=>h)
 intro G w' hG hI
 have:=hy (mapF G slots) G w' (hlen G slots) hI
 rwa [zI4 hok hG] at this
theorem cut1(m:Nat)(exc:List Nat)(s1:Nat)(I:Value->World->Prop){c x y:Code}{Q:KS}{F:Nat->Value}(hc:c=.seq x y)(hok:okB m exc [s1] x=true)
  (hx:S P T n x { Q with nrm:=λF' w'=>I (F' s1) w' } F w)(hy:∀v1 g w',I v1 w'->S P T n y Q (hdF m exc [(s1,v1)] g F) w'):S P T n c Q F w:=
 cutL m exc [s1] (λvs w=>match vs with|[v1]=>I v1 w|_=>False) hc hok hx λvs g w' _ hI=>match vs,hI with|[v1],hI=>hy v1 g w' hI
theorem cut2(m:Nat)(exc:List Nat)(s1 s2:Nat)(I:Value->Value->World->Prop){c x y:Code}{Q:KS}{F:Nat->Value}(hc:c=.seq x y)(hok:okB m exc [s1,s2] x=true)
  (hx:S P T n x { Q with nrm:=λF' w'=>I (F' s1) (F' s2) w' } F w)(hy:∀v1 v2 g w',I v1 v2 w'->S P T n y Q (hdF m exc [(s1,v1),(s2,v2)] g F) w'):S P T n c Q F w:=
 cutL m exc [s1,s2] (λvs w=>match vs with|[v1,v2]=>I v1 v2 w|_=>False) hc hok hx λvs g w' _ hI=>match vs,hI with|[v1,v2],hI=>hy v1 v2 g w' hI
end
end Go.W
namespace Go.W
open Go
variable {B N i j k m n:Nat} {D:Nat -> Prop} {P:Program} {a a':Option Addr} {u u' w w':World}
class Enc (α:Type) where
 sz:Nat
 enc:α->List Value
 len:∀x,(enc x).length=sz
 one:∀x,∀u∈enc x,u.oneCell'=true
 pos:0<sz
open Enc (enc)
instance:Enc Int:=⟨1,λx=>[.int .i64 x],λ_=>rfl,by intro x u hu;simp at hu;subst hu;rfl,by decide⟩
instance:Enc Bool:=⟨1,λx=>[.bool x],λ_=>rfl,by intro x u hu;simp at hu;subst hu;rfl,by decide⟩
instance:Enc ByteArray:=⟨1,λx=>[.string x],λ_=>rfl,by intro x u hu;simp at hu;subst hu;rfl,by decide⟩
structure SV where
 a:Option Addr
 n:Nat
 c:Nat
def SV.v (s:SV):Value:=.slice s.a s.n s.c
instance:Enc SV:=⟨1,λx=>[.slice x.a x.n x.c],λ_=>rfl,by intro x u hu;simp at hu;subst hu;rfl,by decide⟩
section
variable {α:Type} [Enc α]
def flat (l:List α):List Value:=l.flatMap enc
@[simp] theorem flat_nil:flat ([]:List α)=[]:=rfl
@[simp] theorem flat_cons (x:α) (l:List α):flat (x::l)=enc x++flat l:=rfl
@[simp] theorem flat_append (l m:List α):flat (l++m)=flat l++flat m:=by simp [flat]
theorem zAm(l:List α):(flat l).length=l.length*Enc.sz α:=by
 induction l with
 |nil=>simp
 |cons x r ih=>simp [ih,Enc.len,Nat.add_mul,Nat.add_comm]
theorem zBS(l:List α):∀u∈flat l,u.oneCell'=true:=by
 intro u hu
 obtain⟨x,_,hx⟩:=List.mem_flatMap.1 hu
 exact Enc.one x u hx
theorem zB8(l:List α)(i:Nat):flat (l.drop i)=(flat l).drop (i*Enc.sz α):=by
 induction l generalizing i with
 |nil=>simp
 |cons x r ih =>
  cases i with
  |zero=>simp
  |succ i =>
   simp only [List.drop_succ_cons,ih,flat_cons]
   rw [List.drop_append,Enc.len,List.drop_of_length_le (l:=enc x) (by rw [Enc.len,Nat.add_mul];omega)]
   simp [Nat.add_mul]
theorem zB9(l:List α)(i:Nat):flat (l.take i)=(flat l).take (i*Enc.sz α):=by
 induction l generalizing i with
 |nil=>simp
 |cons x r ih =>
  cases i with
  |zero=>simp
  |succ i =>
   simp only [List.take_succ_cons,ih,flat_cons]
   rw [List.take_append,Enc.len,List.take_of_length_le (l:=enc x) (by rw [Enc.len,Nat.add_mul];omega)]
   simp [Nat.add_mul]
theorem zIY(l:List α){x:α}(h:l[i]? = some x):((flat l).drop (i*Enc.sz α)).take (Enc.sz α)=enc x:=by
 rw [<-zB8]
 have hi:=List.getElem?_eq_some_iff.1 h
 obtain⟨hl,rfl⟩:=hi
 rw [List.drop_eq_getElem_cons hl,flat_cons,List.take_append,Enc.len]
 simp [List.take_of_length_le (l:=enc l[i]) (by rw [Enc.len];exact Nat.le_refl _)]
theorem flat_set(l:List α)(x:α)(h:i<l.length):(flat l).take (i*Enc.sz α)++enc x++(flat l).drop (i*Enc.sz α+Enc.sz α)=flat (l.set i x):=by
 rw [<-zB9,show i*Enc.sz α+Enc.sz α=(i+1)*Enc.sz α by rw [Nat.add_mul,Nat.one_mul],<-zB8]
 rw [List.set_eq_take_append_cons_drop,if_pos h]
 simp [flat_append]
def SlF (w:World) (v:Value) (l:List α):Prop:=
 ∃a c,v=.slice a l.length c/\l.length<=c/\(l=[]\/∃b o,a=some ⟨b,o,none⟩/\At w b o (flat l))
theorem SlF.shape{v:Value}{l:List α}(h:SlF w v l):∃a c,v=.slice a l.length c:=by obtain⟨a,c,h,_⟩:=h;exact⟨a,c,h⟩
theorem SlF.ext{v:Value}{l:List α}(h:SlF w v l)(he:Ext w w'):SlF w' v l:=by
 obtain⟨a,c,hv,hc,h⟩:=h
 exact⟨a,c,hv,hc,h.imp id λ⟨b,o,ha,hat⟩=>⟨b,o,ha,hat.ext he⟩⟩
theorem SlF.up[h:Le w w']{v:Value}{l:List α}(a:SlF w v l):SlF w' v l:=a.ext h.e
theorem SlF.nil(w:World):SlF w (.slice none 0 0) ([]:List α):=⟨none,0,rfl,Nat.le_refl _,.inl rfl⟩
theorem SlF.nil'(w:World)(a:Option Addr)(c:Nat):SlF w (.slice a 0 c) ([]:List α):=⟨a,c,rfl,Nat.zero_le _,.inl rfl⟩
def Value.blk:Value->Option Nat
 |.slice (some a) _ _=>some a.block
 |_=>none
theorem SlF.fr{v:Value}{l:List α}(h:SlF w v l)(he:Fr D w w')(hd:∀b,Value.blk v=some b->¬D b):SlF w' v l:=by
 obtain⟨a,c,rfl,hc,h⟩:=h
 refine⟨a,c,rfl,hc,h.imp id λ⟨b,o,ha,hat⟩=>⟨b,o,ha,hat.fr he ?_⟩⟩
 subst ha;exact hd b rfl
theorem SlF.lt{v:Value}{l:List α}(h:SlF w v l)(hl:l≠[]):∃b,Value.blk v=some b/\b<w.heap.size:=by
 obtain⟨a,c,rfl,hc,h⟩:=h
 rcases h with h|⟨b,o,rfl,hat⟩
 ·exact absurd h hl
 ·refine⟨b,rfl,?_⟩
  cases l with
  |nil=>exact absurd rfl hl
  |cons x r =>
   have:=Enc.len x
   have hp:=Enc.pos (α:=α)
   have h0:(flat (x::r))[0]? = some ((enc x)[0]'(by omega)):=by
    rw [flat_cons,List.getElem?_append_left (by omega)];simp
   exact World.block_lt_of_cell? w _ (hat 0 _ h0)
theorem SlF.len{c:Nat}{l:List α}(h:SlF w (.slice a n c) l):n=l.length:=by obtain⟨a',c',hv,_⟩:=h;cases hv;rfl
theorem SlF.at{c:Nat}{l:List α}(h:SlF w (.slice a n c) l){x:α}(hi:l[i]? = some x):
  n=l.length/\∃b o,a=some ⟨b,o,none⟩/\At w b (o+i*Enc.sz α) (enc x):=by
 obtain⟨a',c',hv,_,h⟩:=h
 cases hv
 refine⟨rfl,?_⟩
 rcases h with rfl|⟨b,o,ha,hat⟩
 ·simp at hi
 ·refine⟨b,o,ha,?_⟩
  rw [<-zIY l hi]
  exact hat.sub _ _
theorem SlF.part{c:Nat}{l:List α}(h:SlF w (.slice a n c) l)(lo hi:Nat)(h1:lo<=hi)(h2:hi<=n):
  SlF w (.slice (if c=lo then a else a.map (·.add (lo*Enc.sz α))) (hi - lo) (c - lo)) ((l.drop lo).take (hi - lo)):=by
 obtain⟨a',c',hv,hc,h⟩:=h
 cases hv
 have hlen:((l.drop lo).take (hi - lo)).length=hi - lo:=by simp;omega
 refine⟨_,_,by rw [hlen],by rw [hlen];omega,?_⟩
 rcases h with rfl|⟨b,o,rfl,hat⟩
 ·left;simp
 ·by_cases hcl:c=lo
  ·left
   apply List.eq_nil_of_length_eq_zero
   rw [hlen];omega
  ·right
   refine⟨b,o+lo*Enc.sz α,by simp [hcl,zAv],?_⟩
   rw [zB9,zB8]
   exact hat.sub _ _
def Own (B:Nat) (e:TypeId) (w:World) (v:Value) (l:List α):Prop:=
 (l=[]/\∃a,v=.slice a 0 0)\/w.ownsRow B e (Enc.sz α) v l.length (flat l)
def ownD (B:Nat) (v:Value):Nat->Prop:=λb=>B<=b/\Value.blk v=some b/\∀a,v≠.slice a 0 0
theorem Own.nil(B:Nat)(e:TypeId)(w:World):Own B e w (.slice none 0 0) ([]:List α):=.inl ⟨rfl,_,rfl⟩
theorem Own.nil'(B:Nat)(e:TypeId)(w:World)(a:Option Addr):Own B e w (.slice a 0 0) ([]:List α):=.inl ⟨rfl,_,rfl⟩
theorem Own.sl{e:TypeId}{v:Value}{l:List α}(h:Own B e w v l):SlF w v l:=by
 rcases h with ⟨rfl,a,rfl⟩|h
 ·exact SlF.nil' w a 0
 ·rcases h.2 with ⟨rfl,hn⟩|⟨g,cap,cur,rfl,hb,hg,hnc,hcm,hcs,htake⟩
  ·have:l=[]:=List.eq_nil_of_length_eq_zero hn
   subst this;exact SlF.nil w
  ·refine⟨_,_,rfl,hnc,.inr ⟨g,0,rfl,?_⟩⟩
   intro j v hj
   rw [cell_of_row w g (0+j) cur e (0,0) hg]
   rw [<-htake,List.getElem?_take] at hj
   split at hj
   ·simpa using hj
   ·cases hj
theorem Own.fr{e:TypeId}{v:Value}{l:List α}(h:Own B e w v l)(hf:Fr D w w')(hd:∀b,B<=b->Value.blk v=some b->¬D b):Own B e w' v l:=by
 rcases h with h|h
 ·exact .inl h
 ·refine .inr ⟨h.1,?_⟩
  rcases h.2 with hn|⟨g,cap,cur,rfl,hb,hg,rest⟩
  ·exact .inl hn
  ·exact .inr ⟨g,cap,cur,rfl,hb,hf.blk hg (hd g hb rfl),rest⟩
theorem Own.not0{e:TypeId}{v:Value}{l:List α}(h:Own B e w v l)(hl:l≠[])(a:Option Addr):v≠.slice a 0 0:=by
 intro hv
 subst hv
 obtain⟨a',c',hs⟩:=h.sl.shape
 injection hs with _ h2 _
 exact hl (List.eq_nil_of_length_eq_zero h2.symm)
theorem Own.wr{B':Nat}{e:TypeId}{v:Value}{l:List α}(h:Own B e w v l){b:Nat}(hb:ownD B' v b):b<w.heap.size:=by
 rcases h with ⟨rfl,a,rfl⟩|h
 ·exact absurd rfl (hb.2.2 a)
 ·rcases h.2 with ⟨rfl,hn⟩|⟨g,cap,cur,rfl,_,hg,rest⟩
  ·cases hb.2.1
  ·have:=hb.2.1;simp only [Value.blk] at this;cases this;exact blk_lt hg
theorem Own.ext{e:TypeId}{v:Value}{l:List α}(h:Own B e w v l)(hf:Ext w w'):Own B e w' v l:=h.fr hf λ_ _ _ h=>h
theorem Own.mono{B':Nat}{e:TypeId}{v:Value}{l:List α}(h:Own B e w v l)(hb:B'<=B):Own B' e w v l:=by
 rcases h with h|h
 ·exact .inl h
 ·refine .inr ⟨h.1,h.2.imp id ?_⟩
  rintro⟨g,cap,cur,hv,hg,rest⟩
  exact⟨g,cap,cur,hv,by omega,rest⟩
theorem Own.up{e:TypeId}[h:Le w w']{v:Value}{l:List α}(a:Own B e w v l):Own B e w' v l:=a.ext h.e
theorem Own.older{e:TypeId}[h:Le u' u]{v:Value}{l:List α}(a:Own u.heap.size e w v l):Own u'.heap.size e w v l:=a.mono h.e.size
theorem Own.lt{e:TypeId}{v:Value}{l:List α}(h:Own B e w v l)(hl:l≠[]):∃g,Value.blk v=some g/\B<=g/\g<w.heap.size:=by
 rcases h with ⟨h,_⟩|h
 ·exact absurd h hl
 ·rcases h.2 with ⟨_,hn⟩|⟨g,cap,cur,rfl,hb,hg,rest⟩
  ·exact absurd (List.eq_nil_of_length_eq_zero hn) hl
  ·exact⟨g,rfl,hb,blk_lt hg⟩
section
variable {P:Program} {k:Value->World->Prop} {pn:List PanicEntry->World->Prop} {w:World}
theorem rix{t e:TypeId}{z:Value}{by':Nat}[ht:SlT P t e][he:Elem P e z (Enc.sz α) by']{c:Nat}{l:List α}{x:α}(h:SlF w (.slice a n c) l)(hi:l[i]? = some x)
  (hk:∀b o,At w b o (enc x)->k (.pointer (some ⟨b,o,none⟩)) w):SemV P (Instr.indexAt t (.slice a n c) (.int .i64 i)) k pn w:=by
 obtain⟨rfl,b,o,rfl,hat⟩:=h.at hi
 have hl:i<l.length:=(List.getElem?_eq_some_iff.1 hi).1
 exact SemV.of (zDy ht he (by omega) (by omega) w) (hk _ _ hat)
theorem tix{t e:TypeId}{z:Value}{by':Nat}[ht:SlT P t e][he:Elem P e z (Enc.sz α) by']{k:Value->Prop}{c:Nat}{l:List α}{x:α}(h:SlF w (.slice a n c) l)(hi:l[i]? = some x)
  (hk:∀b o,At w b o (enc x)->Value.blk (.slice a n c)=some b->k (.pointer (some ⟨b,o,none⟩))):TakeS P (Instr.indexAt t (.slice a n c) (.int .i64 i)) D k w:=by
 obtain⟨rfl,b,o,rfl,hat⟩:=h.at hi
 have hl:i<l.length:=(List.getElem?_eq_some_iff.1 hi).1
 rw [zAg]
 exact⟨_,λw' _=>zDy ht he (by omega) (by omega) w',hk _ _ hat rfl⟩
theorem tload1{t:TypeId}[ht:One P t]{k:Value->Prop}{b o:Nat}{v:Value}(h:w.cell? ⟨b,o,none⟩=some v)(hd:¬D b)(hk:k v):TakeS P (Instr.loadAt t (.pointer (some ⟨b,o,none⟩))) D k w:=by
 rw [zAg]
 exact⟨v,λw' hw'=>by simp [Instr.loadAt,Instr.sureAddr,zCd ht (hw'.cell h hd)],hk⟩
theorem tloadA{t:Nat}[ht:Agg P t n]{k:Value->Prop}{b o:Nat}{cs:List Value}(h:At w b o cs)(hl:cs.length=n)(hd:¬D b)(hk:k (.agg cs.toArray)):TakeS P (Instr.loadAt t (.pointer (some ⟨b,o,none⟩))) D k w:=by
 rw [zAg]
 exact⟨_,λw' hw'=>by simp [Instr.loadAt,Instr.sureAddr,zFb ht (h.fr hw' hd) hl],hk⟩
def loV:Option Nat->Option Value
 |none=>none
 |some n=>some (.int .i64 n)
theorem zBk{t e:TypeId}{z:Value}{sz by':Nat}(ht:SlT P t e)(he:Elem P e z sz by'){c:Nat}(lo hi:Option Nat)(h1:lo.getD 0<=hi.getD n)(h2:hi.getD n<=c)(w:World):
  (Instr.sliceAt t (.slice a n c) (loV lo) (loV hi) none).run P w=.ok (.slice (if c=lo.getD 0 then a else a.map (·.add (lo.getD 0*sz))) (hi.getD n - lo.getD 0) (c - lo.getD 0)) w:=by
 obtain⟨j,hj,_,hs,_⟩:=info_parts he.h
 cases lo <;> cases hi <;> simp only [Option.getD_none,Option.getD_some] at h1 h2 <;>
  simp [Instr.sliceAt,Instr.slice,Instr.sliceBounds,Instr.sliceBound,loV,underlying,ht.h,asIntOf,sizeOf,typeInfo,hj,hs,h1,h2]
theorem tsl{t e:TypeId}{z:Value}{by':Nat}[ht:SlT P t e][he:Elem P e z (Enc.sz α) by']{k:Value->Prop}{c:Nat}{l:List α}(lo hi:Option Nat)(h:SlF w (.slice a n c) l)(h1:lo.getD 0<=hi.getD n)(h2:hi.getD n<=n)
  (hk:∀a' c',SlF w (.slice a' (hi.getD n - lo.getD 0) c') ((l.drop (lo.getD 0)).take (hi.getD n - lo.getD 0))->k (.slice a' (hi.getD n - lo.getD 0) c')):TakeS P (Instr.sliceAt t (.slice a n c) (loV lo) (loV hi) none) D k w:=by
 have hnc:n<=c:=by obtain⟨a',c',hv,hc,_⟩:=h;cases hv;exact hc
 rw [zAg]
 exact⟨_,λw' _=>zBk ht he lo hi h1 (by omega) w',hk _ _ (h.part _ _ h1 h2)⟩
theorem zFs{t ty e:TypeId}{z:Value}{sz by':Nat}(ht:SlT P t e)(he:Elem P e z sz by')(hsz:Enc.sz α=sz)(hzc:z.cells.size=sz){v x:Value}{l m:List α}
  (hO:Own B e w v l)(hS:SlF w x m)(hb:(l.length+m.length)*by'<=140737488355328)(hm:l.length+m.length<=maxLen)(hB:B<=w.heap.size):
  ∃v' w',(Builtin.append_ #[t,t] ty #[v,x]).run P w=.ok v' w'/\Own B e w' v' (l++m)/\Fr (ownD B v) w w':=by
 obtain⟨i,hi,hz,hs,hby⟩:=info_parts he.h
 subst hsz
 have hp:=Enc.pos (α:=α)
 obtain⟨xa,xc,rfl,hxc,hx⟩:=hS
 by_cases hm0:m=[]
 ·subst hm0
  rw [List.append_nil]
  refine⟨v,w,?_,hO,Fr.refl _ w⟩
  rcases hO with ⟨rfl,a,rfl⟩|hO
  ·cases xa <;> cases a <;> simp [Builtin.append_,run_underlying ht.h,sizeOf,typeInfo,hi,Builtin.lenOf,Builtin.firstCells,loadCells,loadCellsFrom,storeCells]
  ·rcases hO.2 with ⟨rfl,hn⟩|⟨g,cap,cur,rfl,hb',hg,hnc,_⟩
   ·cases xa <;> simp [Builtin.append_,run_underlying ht.h,sizeOf,typeInfo,hi,Builtin.lenOf,Builtin.firstCells,loadCells,loadCellsFrom]
   ·cases xa <;> simp [Builtin.append_,run_underlying ht.h,sizeOf,typeInfo,hi,Builtin.lenOf,Builtin.firstCells,hnc,storeCells,loadCells,loadCellsFrom]
 rcases hx with hx|⟨b,o,rfl,hat⟩
 ·exact absurd hx hm0
 have hnews:∀j u,(flat m)[j]? = some u->w.cell? ((⟨b,o,none⟩:Addr).add j)=some u:=λj u hj=>by rw [zAv];exact hat j u hj
 have hl:(flat m).length=m.length*Enc.sz α:=zAm m
 have hO:(l=[]/\∃a,v=.slice a 0 0)\/(w.ownsRow B e (Enc.sz α) v l.length (flat l)/\∀a,v≠.slice a 0 0):=by
  by_cases hv:∃a,v=.slice a 0 0
  ·left
   obtain⟨a,rfl⟩:=hv
   obtain⟨a',c',hs⟩:=hO.sl.shape
   refine⟨List.eq_nil_of_length_eq_zero ?_,a,rfl⟩
   injection hs with _ h2 _;exact h2.symm
  ·rcases hO with h|h
   ·exact absurd h.2 hv
   ·exact .inr ⟨h,λa ha=>hv ⟨a,ha⟩⟩
 rcases hO with ⟨rfl,a,rfl⟩|⟨hO,hv0⟩
 ·cases a with
  |none =>
   obtain⟨v',w',h1,h2,h3,_⟩:=run_append_own (P:=P) w B t ty e i z (Enc.sz α) by' ht.h hi hz hs hby hzc hp _ 0 [] (World.ownsRow_nil w B e (Enc.sz α)) ⟨b,o,none⟩ m.length xc (flat m) hl hnews (zBS m) (by simpa using hm) (by simpa using hb) hB
   refine⟨v',w',h1,.inr (by simpa using h2),(Fr.grown h3 λr o hr=>by simp [Value.ownBlock] at hr).mono λj _ hj=>?_⟩
   simp [Value.ownBlock] at hj
  |some a =>
   have hmp:0<m.length:=by cases m;exact absurd rfl hm0;simp
   have hr:=run_append_grow (P:=P) w t ty e i z ht.h hi hz a 0 0 [] (by simp) (by simp) ⟨b,o,none⟩ m.length xc (flat m) (by rw [hl,hs]) hnews (by omega) (by simp only [maxLen] at hm;simp at hm;omega)
    (by rw [hby];exact growslice_fits (by omega) (by simpa using hb))
   refine⟨_,_,hr,.inr ⟨by simpa using hl,.inr ⟨w.heap.size,grownCap w (0+m.length) 0 e,_,by simp,hB,heap_alloc_new w.drew _,?_,?_,?_,?_⟩⟩,(show Ext w w.drew from ⟨rfl,rfl,rfl,Nat.le_refl _,λ_ _ _=>rfl,λ_ _ h _=>h⟩).t (Ext.alloc w.drew _) |>.fr⟩
   ·have:=grownCap_ge w (0+m.length) 0 e;simpa using this
   ·exact grownCap_le_maxLen w _ 0 e (by simpa using hm)
   ·have hge:=grownCap_ge w (0+m.length) 0 e
    simp only [Array.size_append,List.size_toArray,size_zeroCells,hzc,hl,List.length_nil,Nat.zero_add,<-Nat.add_mul] at hge ⊢
    congr 1
    omega
   ·simp only [Array.toList_append,List.nil_append,Nat.zero_add]
    rw [<-hl];exact List.take_left
 ·obtain⟨v',w',h1,h2,h3,_⟩:=run_append_own (P:=P) w B t ty e i z (Enc.sz α) by' ht.h hi hz hs hby hzc hp v l.length (flat l) hO ⟨b,o,none⟩ m.length xc (flat m) hl hnews (zBS m) hm hb hB
  refine⟨v',w',h1,.inr (by simpa using h2),(Fr.grown h3 λr o hr ho=>?_).mono λj _ hj=>?_⟩
  ·rcases hO.2 with ⟨rfl,_⟩|⟨g,cap,cur,rfl,_,hg,_⟩
   ·cases hr
   ·cases hr;rw [hg] at ho;cases ho;rfl
  have hj':v.ownBlock=some j:=hj.symm
  refine⟨(hO.lt j hj').1,?_,hv0⟩
  rcases hO.2 with ⟨rfl,_⟩|⟨g,cap,cur,rfl,_⟩
  ·cases hj'
  ·exact hj'
end
end
end Go.W
namespace Go.W
open Go
open Enc (enc)
variable {B N i j k m n:Nat} {D:Nat -> Prop} {P:Program} {a a':Option Addr} {u u' w w':World}
section
variable {α:Type} [Enc α] {P:Program} {k:Value->World->Prop} {pn:List PanicEntry->World->Prop} {w:World}
theorem zAz{w:World}{v:Value}(f:Fr (ownD u.heap.size v) w w'):Stw u w w':=f.stw λ_ hi=>hi.1
theorem rapp{t ty e:TypeId}{z:Value}{sz by':Nat}[ht:SlT P t e][he:Elem P e z sz by']{v x:Value}{l m:List α}(hsz:Enc.sz α=sz/\z.cells.size=sz)
  (hO:Own u.heap.size e w v l)(hS:SlF w x m)[hB:Le u w](hb:(l.length+m.length)*by'<=140737488355328/\l.length+m.length<=9223372036854775807)
  (hk:∀v' w',Own u.heap.size e w' v' (l++m)->Fr (ownD u.heap.size v) w w'->Stw u w w'->k v' w'):SemV P (Builtin.append_ #[t,t] ty #[v,x]) k pn w:=by
 obtain⟨v',w',h1,h2,h3⟩:=zFs (ty:=ty) ht he hsz.1 hsz.2 hO hS hb.1 (by unfold maxLen;omega) hB.e.size
 exact SemV.of h1 (hk _ _ h2 h3 (zAz h3))
theorem New.sl{w:World}{b:Nat}{cs:Array Value}{e:TypeId}(h:New w w' b cs e){l:List α}(hc:cs.toList=flat l)(hn:l.length=n):SlF w' (.slice (some ⟨b,0,none⟩) n n) l:=by
 subst hn
 refine⟨_,_,rfl,Nat.le_refl _,.inr ⟨b,0,rfl,?_⟩⟩
 rw [<-hc];exact At.blk h.blk
theorem setsplice(l:List Value)(off:Nat):∀(vs:List Value) (j:Nat),off+j+vs.length<=l.length ->
  (vs.zipIdx j).foldl (λ(cs:Array Value) x=>cs.setIfInBounds (off+x.2) x.1) l.toArray=(l.take (off+j)++vs++l.drop (off+j+vs.length)).toArray:=by
 intro vs
 induction vs generalizing l with
 |nil=>intro j _;simp
 |cons v r ih =>
  intro j h
  simp only [List.zipIdx_cons,List.foldl_cons,List.length_cons] at h ⊢
  have e:l.toArray.setIfInBounds (off+j) v=(l.set (off+j) v).toArray:=by simp
  rw [e,ih (l.set (off+j) v) (j+1) (by simp;omega)]
  congr 1
  have h1:(l.set (off+j) v).take (off+(j+1))=l.take (off+j)++[v]:=by
   rw [List.set_eq_take_append_cons_drop,if_pos (by omega)]
   rw [List.take_append,List.length_take,Nat.min_eq_left (by omega),show off+(j+1) - (off+j)=1 by omega,List.take_of_length_le (by simp;omega)]
   simp
  have h2:(l.set (off+j) v).drop (off+(j+1)+r.length)=l.drop (off+j+(r.length+1)):=by
   rw [List.drop_set_of_lt (by omega)]
   congr 1;omega
  rw [h1,h2];simp
def fillL (place:Nat->Option (Nat×Nat)):List Value->List (Nat×Value)->Option (List Value)
 |cs,[]=>some cs
 |cs,(i,v)::r=>match place i with
  |some (off,size)=>match Nat.beq v.cells.toList.length size,Nat.ble (off+size) cs.length with
   |true,true=>fillL place (cs.take off++v.cells.toList++cs.drop (off+size)) r
   |_,_=>none
  |none=>none
theorem zKM(place:Nat->Option (Nat×Nat)):∀(parts:List (Nat×Value)) (cs cs':List Value),fillL place cs parts=some cs'->Instr.fill place cs.toArray parts=some cs'.toArray
 |[],cs,cs',h=>by simp only [fillL,Option.some.injEq] at h;subst h;rfl
 |(i,v)::r,cs,cs',h=>by
  simp only [fillL] at h
  simp only [Instr.fill]
  split at h
  ·rename_i off size hp
   simp only [hp]
   split at h
   ·rename_i h1 h2
    have h1':=Nat.eq_of_beq_eq_true h1
    have h2':=Nat.le_of_ble_eq_true h2
    have hsz:v.cells.size=size:=by simpa using h1'
    rw [if_neg (by simp [hsz];omega)]
    rw [show v.cells.zipIdx=(v.cells.toList.zipIdx 0).toArray from Array.ext' (by simp)]
    rw [List.foldl_toArray]
    have:=setsplice cs off v.cells.toList 0 (by rw [h1'];omega)
    simp only [Nat.add_zero,h1'] at this
    rw [this]
    exact zKM place r _ _ h
   ·cases h
  ·cases h
def structB (P:Program) (t:TypeId) (places:List (Nat×Nat)):Bool:=
 match P.underlying t with
 |some (.struct fs)=>decide (fs.toList.map (λf=>(f.offset,P.cellsOf f.type))=places) && fs.all (λf=>(P.info? f.type).isSome)
 |_=>false
theorem zJU{P:Program}{t:TypeId}{places:List (Nat×Nat)}(h:structB P t places=true):
  ∃fs,P.underlying t=some (.struct fs)/\fs.toList.map (λf=>(f.offset,P.cellsOf f.type))=places/\fs.all (λf=>(P.info? f.type).isSome)=true:=by
 unfold structB at h
 split at h
 ·rename_i fs hfs
  rw [Bool.and_eq_true] at h
  exact⟨fs,hfs,of_decide_eq_true h.1,h.2⟩
 ·cases h
class StructT (P:Program) (t:TypeId) (places:outParam (List (Nat×Nat))) (zero:outParam (List Value)):Prop where
 h:structB P t places=true
 z:(P.info? t).bind (·.zero)=some (.agg zero.toArray)
theorem zLF{fs:Array Field}{w:World}(h:fs.all (λf=>(P.info? f.type).isSome)=true):
  (fs.mapM (λf=>do pure (f.offset,<-sizeOf f.type):Field->Sem (Nat×Nat))).run P w=.ok (fs.toList.map (λf=>(f.offset,P.cellsOf f.type))).toArray w:=by
 rw [Array.mapM_eq_mapM_toList,Sem.run_map]
 have key:∀l:List Field,(∀f∈l,(P.info? f.type).isSome=true)->(l.mapM (λf=>do pure (f.offset,<-sizeOf f.type):Field->Sem (Nat×Nat))).run P w=.ok (l.map (λf=>(f.offset,P.cellsOf f.type))) w:=by
  intro l
  induction l with
  |nil=>intro _;rfl
  |cons f r ih =>
   intro hl
   obtain⟨i,hi⟩:=Option.isSome_iff_exists.1 (hl f (List.mem_cons_self ..))
   simp only [List.mapM_cons,Sem.run_bind,sizeOf,typeInfo,run_program,Result.andThen_ok,hi,Sem.run_pure]
   have:=ih (λg hg=>hl g (List.mem_cons_of_mem _ hg))
   simp only [sizeOf,typeInfo] at this
   rw [this]
   simp [Program.cellsOf,hi]
 rw [key _ (by intro f hf;rw [Array.all_eq_true] at h;obtain⟨i,hi,rfl⟩:=Array.mem_iff_getElem.1 (Array.mem_toList_iff.1 hf);exact h i hi)]
 rfl
theorem zH9{t:TypeId}{places:List (Nat×Nat)}{zero:List Value}(ht:StructT P t places zero){parts:List (Nat×Value)}{cs:List Value}(hf:fillL (nth places) zero parts=some cs)(w:World):
  (Instr.build t parts.toArray).run P w=.ok (.agg cs.toArray) w:=by
 obtain⟨fs,h1,h2,h3⟩:=zJU ht.h
 obtain⟨i,hi,hz⟩:=Option.bind_eq_some_iff.1 ht.z
 have hp:=zLF (P:=P) (w:=w) h3
 rw [h2] at hp
 have e:(λx=>places.toArray[x]?)=nth places:=by funext x;rw [nth_eq];simp
 have hff:=zKM _ parts zero cs hf
 simp only [Instr.build,zeroValue,typeInfo,underlying,Sem.run_bind,run_program,Result.andThen_ok,hi,hz,Sem.run_pure,h1,hp,Value.cells,e,hff]
theorem rbuild{t:TypeId}{places:List (Nat×Nat)}{zero:List Value}[ht:StructT P t places zero]{parts:List (Nat×Value)}{cs:List Value}(hf:fillL (nth places) zero parts=some cs)(hk:k (.agg cs.toArray) w):
  SemV P (Instr.build t parts.toArray) k pn w:=SemV.of (zH9 ht hf w) hk
theorem tbuild{t:TypeId}{places:List (Nat×Nat)}{zero:List Value}[ht:StructT P t places zero]{k:Value->Prop}{parts:List (Nat×Value)}{cs:List Value}(hf:fillL (nth places) zero parts=some cs)(hk:k (.agg cs.toArray)):
  TakeS P (Instr.build t parts.toArray) D k w:=by rw [zAg];exact⟨_,λw' _=>zH9 ht hf w',hk⟩
def partsOf (vs:List Value) (i:Nat):List (Nat×Value):=match vs with
 |[]=>[]
 |v::r=>(i,v)::partsOf r (i+1)
theorem zIW(size:Nat):∀(vs:List Value) (css:List (List Value)) (i:Nat) (pre post:List Value),vs.map (λv=>v.cells.toList)=css->(∀cs∈css,cs.length=size)->pre.length=i*size->post.length=vs.length*size ->
  Instr.fill (λi=>some (i*size,size)) (pre++post).toArray (partsOf vs i)=some (pre++css.flatten).toArray
 |[],css,i,pre,post,h,_,_,hp=>by
  simp only [List.map_nil] at h;subst h
  have:post=[]:=List.eq_nil_of_length_eq_zero (by simpa using hp)
  subst this;simp [partsOf,Instr.fill]
 |v::r,css,i,pre,post,h,hl,hpre,hp=>by
  cases css with
  |nil=>simp at h
  |cons c css =>
   simp only [List.map_cons,List.cons.injEq] at h
   have hc:c.length=size:=hl c (List.mem_cons_self ..)
   have hvs:v.cells.size=size:=by rw [<-hc,<-h.1];simp
   simp only [List.length_cons,Nat.add_mul,Nat.one_mul] at hp
   simp only [partsOf,Instr.fill]
   rw [if_neg (by simp [hvs];omega)]
   rw [show v.cells.zipIdx=(v.cells.toList.zipIdx 0).toArray from Array.ext' (by simp),List.foldl_toArray]
   have hs:=setsplice (pre++post) (i*size) v.cells.toList 0 (by simp [hvs];omega)
   simp only [Nat.add_zero] at hs
   rw [hs,h.1,hc]
   have e1:(pre++post).take (i*size)=pre:=by rw [<-hpre];exact List.take_left
   have e2:(pre++post).drop (i*size+size)=post.drop size:=by
    rw [List.drop_append,List.drop_of_length_le (by omega),List.nil_append];congr 1;omega
   rw [e1,e2]
   have:=zIW size r css (i+1) (pre++c) (post.drop size) h.2 (λcs hcs=>hl cs (List.mem_cons_of_mem _ hcs)) (by simp [hpre,hc,Nat.add_mul]) (by simp;omega)
   rw [this];simp
theorem run_bs{t e:TypeId}{z:Value}{sz by':Nat}(ht:SlT P t e)(he:Elem P e z sz by')(hsz:Enc.sz α=sz){vs:List Value}{xs:List α}(hv:vs.map (λv=>v.cells.toList)=xs.map enc)(hn:xs.length=n)(hb:n*sz<=16777216)(w:World):
  (Instr.buildSlice t n (partsOf vs 0).toArray).run P w=.ok (.slice (some ⟨w.heap.size,0,none⟩) n n) (w.alloc (.cells (flat xs).toArray e)):=by
 obtain⟨i,hi,hz,hs,_⟩:=info_parts he.h
 subst hsz
 have hvl:vs.length=n:=by have:=congrArg List.length hv;simpa [hn] using this
 have key:=zIW (Enc.sz α) vs (xs.map enc) 0 [] ((Array.range (n*Enc.sz α)).map (λj=>(if n*Enc.sz α=0 then #[] else z.cells)[j % (if n*Enc.sz α=0 then #[] else z.cells).size]!)).toList hv (by intro cs hcs;obtain⟨x,_,rfl⟩:=List.mem_map.1 hcs;exact Enc.len x) (by simp) (by simp [hvl])
 simp only [List.nil_append,Array.toArray_toList] at key
 have hfl:(xs.map enc).flatten=flat xs:=by simp [flat,List.flatMap]
 rw [hfl] at key
 by_cases h0:n*Enc.sz α=0
 ·have hp:=Enc.pos (α:=α)
  have hn0:n=0:=by rcases Nat.mul_eq_zero.1 h0 with h|h;exact h;omega
  subst hn0
  have hvs:vs=[]:=List.eq_nil_of_length_eq_zero hvl
  have hxs:xs=[]:=List.eq_nil_of_length_eq_zero hn
  subst hvs;subst hxs
  have hr:Array.range 0=#[]:=Array.eq_empty_of_size_eq_zero (by simp)
  simp [Instr.buildSlice,sizeOf,typeInfo,underlying,ht.h,hi,partsOf,Instr.fill,newRow,hr]
 ·simp only [h0,if_false] at key
  have hb':¬(n*Enc.sz α > 2 ^ 24):=by omega
  simp only [Instr.buildSlice,sizeOf,typeInfo,underlying,zeroValue,Sem.run_bind,run_program,Result.andThen_ok,ht.h,hi,hs,hz,Sem.run_pure,h0,if_false,hb',key]
  simp [newRow]
theorem rbs{t e:TypeId}{z:Value}{sz by':Nat}[ht:SlT P t e][he:Elem P e z sz by'](xs:List α)(hsz:Enc.sz α=sz){vs:List Value}(hv:vs.map (λv=>v.cells.toList)=xs.map enc)(hn:xs.length=n)(hb:n*sz<=16777216)
  (hk:∀b w',New w w' b (flat xs).toArray e->SlF w' (.slice (some ⟨b,0,none⟩) n n) xs->k (.slice (some ⟨b,0,none⟩) n n) w'):SemV P (Instr.buildSlice t n (partsOf vs 0).toArray) k pn w:=
 SemV.of (run_bs ht he hsz hv hn hb w) (hk _ _ (New.mk' w _ e) ((New.mk' w _ e).sl rfl hn))
theorem rbs1{t e:TypeId}{z:Value}{sz by':Nat}[ht:SlT P t e][he:Elem P e z sz by'](x:α)(hsz:Enc.sz α=sz){v:Value}(hv:v.cells.toList=enc x)(hb:sz<=16777216)
  (hk:∀b w',Stp w w'->w.heap.size<w'.heap.size->SlF w' (.slice (some ⟨b,0,none⟩) 1 1) [x]->k (.slice (some ⟨b,0,none⟩) 1 1) w'):SemV P (Instr.buildSlice t 1 #[(0,v)]) k pn w:=
 rbs (n:=1) (vs:=[v]) [x] hsz (by simp [hv]) rfl (by omega) λb w' hn hs=>hk b w' ⟨hn.ext⟩ (by have:=blk_lt hn.blk;have:=hn.lo;omega) hs
theorem rapp1{t ty e:TypeId}{z:Value}{sz by':Nat}[ht:SlT P t e][he:Elem P e z sz by']{v x:Value}{l:List α}{y:α}(hsz:Enc.sz α=sz/\z.cells.size=sz)
  (hO:Own u.heap.size e w v l)(hS:SlF w x [y])[hB:Le u w](hb:(l.length+1)*by'<=140737488355328/\l.length+1<=9223372036854775807)
  (hk:∀v' w',Own u.heap.size e w' v' (l++[y])->Fr (ownD u.heap.size v) w w'->Stw u w w'->k v' w'):SemV P (Builtin.append_ #[t,t] ty #[v,x]) k pn w:=
 rapp hsz hO hS hb hk
end
def splice (cur:List Value) (off:Nat) (vs:List Value):List Value:=cur.take off++vs++cur.drop (off+vs.length)
def sizeB (P:Program) (t n:Nat):Bool:=match P.info? t with|some i=>Nat.beq i.size n|none=>false
class Size (P:Program) (t:TypeId) (n:outParam Nat):Prop where
 h:sizeB P t n=true
theorem Fr.setRow(w:World)(g:Nat)(cs:Array Value):Fr (λb=>b=g) w (w.setRow g cs):=⟨rfl,rfl,rfl,by simp,λb _ hb=>setRow_other w g b cs hb,λb o hb ho=>by
 unfold World.setRow
 rw [Array.getElem?_modify]
 split
 ·rw [hb];cases o <;> first|rfl|cases ho
 ·exact hb⟩
section
variable {P:Program} {k:Value->World->Prop} {pn:List PanicEntry->World->Prop} {w:World}
theorem zNo{t:Nat}(h:sizeB P t n=true)(w:World):(sizeOf t).run P w=.ok n w:=by
 unfold sizeB at h
 split at h
 ·rename_i i hi
  simp only [sizeOf,typeInfo,Sem.run_bind,run_program,Result.andThen_ok,hi,Sem.run_pure]
  rw [Nat.eq_of_beq_eq_true h]
 ·cases h
theorem zK7{t:TypeId}(ht:Size P t n){g off:Nat}{cur:Array Value}{e:TypeId}{v:Value}{vs:List Value}(hg:w.heap[g]? = some (.cells cur e (0,0)))(hv:v.cells.toList=vs)(hn:vs.length=n)(hfit:off+n<=cur.size)(h1:∀u∈vs,u.oneCell'=true):
  (Instr.storeAt t (.pointer (some ⟨g,off,none⟩)) v).run P w=.ok () (w.setRow g (splice cur.toList off vs).toArray):=by
 have hs:=run_storeCells_at P g off e vs 0 cur w hg (by rw [hn];simpa using hfit) h1
 simp only [Nat.add_zero] at hs
 have hvs:v.cells.size=n:=by rw [<-hn,<-hv];simp
 simp only [Instr.storeAt,Instr.sureAddr,storeVar,Sem.run_bind,Sem.run_pure,Result.andThen_ok,zNo ht.h,hvs,hv]
 simp [hs,splice]
theorem rst{t:TypeId}[ht:Size P t n]{g off:Nat}{cur:Array Value}{e:TypeId}{v:Value}{vs:List Value}(hg:w.heap[g]? = some (.cells cur e (0,0)))(hv:v.cells.toList=vs)(hn:vs.length=n)(hfit:off+n<=cur.size)(h1:∀u∈vs,u.oneCell'=true)
  (hk:∀w',w'.heap[g]? = some (.cells (splice cur.toList off vs).toArray e (0,0))->Fr (λb=>b=g) w w'->w'.heap.size=w.heap.size->k undef w'):SemU P (Instr.storeAt t (.pointer (some ⟨g,off,none⟩)) v) k pn w:=
 SemU.of (zK7 ht hg hv hn hfit h1) (hk _ (setRow_heap w g cur _ e _ hg) (Fr.setRow w g _) (by simp))
variable {α:Type} [Enc α]
theorem Own.blk{e:TypeId}{c:Nat}{l:List α}(h:Own B e w (.slice a n c) l)(hl:l≠[]):
  ∃g cur,a=some ⟨g,0,none⟩/\n=l.length/\B<=g/\w.heap[g]? = some (.cells cur e (0,0))/\n<=c/\c<=maxLen/\cur.size=c*Enc.sz α/\cur.toList.take (n*Enc.sz α)=flat l:=by
 rcases h with ⟨h,_⟩|h
 ·exact absurd h hl
 ·rcases h.2 with ⟨_,hn⟩|⟨g,cap,cur,hv,hb,hg,hnc,hcm,hcs,htake⟩
  ·exact absurd (List.eq_nil_of_length_eq_zero hn) hl
  ·cases hv;exact⟨g,cur,rfl,rfl,hb,hg,hnc,hcm,hcs,htake⟩
theorem rixO{t e:TypeId}{z:Value}{sz by':Nat}[ht:SlT P t e][he:Elem P e z sz by'](hsz:Enc.sz α=sz){c:Nat}{l:List α}{x:α}(h:Own B e w (.slice a n c) l)(hi:l[i]? = some x)
  (hk:∀g,Value.blk (.slice a n c)=some g->B<=g->At w g (i*sz) (enc x)->k (.pointer (some ⟨g,i*sz,none⟩)) w):SemV P (Instr.indexAt t (.slice a n c) (.int .i64 i)) k pn w:=by
 have hl:i<l.length:=(List.getElem?_eq_some_iff.1 hi).1
 obtain⟨g,cur,rfl,rfl,hb,hg,hnc,hcm,hcs,htake⟩:=h.blk (by intro h0;subst h0;simp at hl)
 refine SemV.of (zDy ht he (b:=g) (o:=0) (by omega) (by omega) w) ?_
 obtain⟨_,b,o,hbo,hat⟩:=h.sl.at hi
 cases hbo
 subst hsz
 have:=hk g rfl hb (by simpa using hat)
 simpa using this
theorem zLJ(cur vs:List Value)(off:Nat)(h:off+vs.length<=cur.length):(splice cur off vs).length=cur.length:=by simp [splice];omega
theorem zKn(cur vs:List Value)(off m:Nat)(h:off+vs.length<=m)(hm:m<=cur.length):(splice cur off vs).take m=splice (cur.take m) off vs:=by
 simp only [splice,List.take_append,List.length_append,List.length_take]
 rw [Nat.min_eq_left (by omega),List.take_take,Nat.min_eq_right (by omega),List.take_take,Nat.min_eq_left (by omega),List.take_of_length_le (l:=vs) (by omega)]
 congr 1
 rw [List.drop_take]
theorem Own.stored{e:TypeId}{v:Value}{l l':List α}{g off:Nat}{vs:List Value}(h:Own B e w v l)(hb:Value.blk v=some g)(hl:l≠[])(hlen:l'.length=l.length)(hoff:off+vs.length<=l.length*Enc.sz α)(hfl:splice (flat l) off vs=flat l'):
  ∃cur,w.heap[g]? = some (.cells cur e (0,0))/\off+vs.length<=cur.size/\∀w',w'.heap[g]? = some (.cells (splice cur.toList off vs).toArray e (0,0))->Own B e w' v l':=by
 obtain⟨a,c,rfl⟩:=h.sl.shape
 obtain⟨g',cur,rfl,_,hb',hg,hnc,hcm,hcs,htake⟩:=h.blk hl
 cases hb
 have hle:l.length*Enc.sz α<=cur.toList.length:=by simp [hcs];exact Nat.mul_le_mul_right _ hnc
 refine⟨cur,hg,by simp at hle;omega,λw' hw'=>.inr ⟨zAm l',.inr ⟨g',c,_,by rw [hlen],hb',hw',by rw [hlen];exact hnc,hcm,?_,?_⟩⟩⟩
 ·simp [zLJ _ _ _ (show off+vs.length<=cur.toList.length by omega),hcs]
 ·rw [hlen,List.toList_toArray,zKn _ _ _ _ hoff hle,htake,hfl]
theorem rstO'{t:TypeId}{sz:Nat}[ht:Size P t sz](hsz:Enc.sz α=sz){e:TypeId}{v:Value}{l:List α}{g:Nat}{u:Value}(x:α)(h:Own B e w v l)(hb:Value.blk v=some g)(hi:i<l.length)(hu:u.cells.toList=enc x)
  (hk:∀w',Own B e w' v (l.set i x)->Fr (ownD B v) w w'->w'.heap.size=w.heap.size->k undef w'):SemU P (Instr.storeAt t (.pointer (some ⟨g,i*sz,none⟩)) u) k pn w:=by
 subst hsz
 have hle:i*Enc.sz α+(enc x).length<=l.length*Enc.sz α:=by
  rw [Enc.len];calc i*Enc.sz α+Enc.sz α=(i+1)*Enc.sz α:=by rw [Nat.add_mul,Nat.one_mul]
   _<=_:=Nat.mul_le_mul_right _ hi
 obtain⟨cur,hg,hfit,hw⟩:=h.stored (l':=l.set i x) (vs:=enc x) (off:=i*Enc.sz α) hb (by intro h0;subst h0;simp at hi) (by simp) hle (by unfold splice;rw [Enc.len];exact flat_set l x hi)
 refine rst hg hu (Enc.len x) (by rw [Enc.len] at hfit;exact hfit) (Enc.one x) λw' h1 h2 h3=>hk w' (hw w' h1) (h2.mono λb _ hbb=>?_) h3
 subst hbb
 have hB:B<=b:=by
  obtain⟨g',hg',hB,_⟩:=h.lt (by intro h0;subst h0;simp at hi)
  rw [hb] at hg';cases hg';exact hB
 exact⟨hB,hb,h.not0 (by intro h0;subst h0;simp at hi)⟩
theorem zHZ(z:Array Value)(x:α)(hz:z.toList=enc x)(n:Nat):(madeCells z (n*Enc.sz α)).toList=flat (List.replicate n x):=by
 have hzs:z.size=Enc.sz α:=by rw [<-Enc.len x,<-hz];simp
 have hp:=Enc.pos (α:=α)
 apply List.ext_getElem?
 intro j
 have hr:∀n j,(flat (List.replicate n x))[j]? = if j<n*Enc.sz α then (enc x)[j % Enc.sz α]? else none:=by
  intro n
  induction n with
  |zero=>intro j;simp
  |succ n ih =>
   intro j
   simp only [List.replicate_succ,flat_cons,List.getElem?_append,Enc.len]
   by_cases h:j<Enc.sz α
   ·have:j<(n+1)*Enc.sz α:=by rw [Nat.add_mul];omega
    simp [h,this,Nat.mod_eq_of_lt h]
   ·simp only [h,if_false,ih]
    have e1:(j - Enc.sz α) % Enc.sz α=j % Enc.sz α:=by rw [<-Nat.mod_eq_sub_mod (by omega)]
    have e2:(j - Enc.sz α<n*Enc.sz α)↔(j<(n+1)*Enc.sz α):=by rw [Nat.add_mul];omega
    simp only [e1,e2]
 rw [hr]
 by_cases h:j<n*Enc.sz α
 ·have hm:j % Enc.sz α<Enc.sz α:=Nat.mod_lt _ hp
  have hm':j % z.size<z.size:=by rw [hzs];exact hm
  simp only [madeCells,Array.toList_map,Array.toList_range,List.getElem?_map,h,if_true]
  rw [List.getElem?_range h,<-hz]
  simp [hzs,hm]
 ·simp only [madeCells,Array.toList_map,Array.toList_range,List.getElem?_map,h,if_false]
  rw [List.getElem?_eq_none (by simp;omega)];rfl
theorem rmk'{t e:TypeId}{z:Value}{sz by':Nat}[ht:SlT P t e][he:Elem P e z sz by'](x:α)(hsz:Enc.sz α=sz)(hz:z.cells.toList=enc x)(hB:B<=w.heap.size)(hb:by'*n<=281474976710656/\n<=9223372036854775807)
  (hk:∀g w',Own B e w' (.slice (some ⟨g,0,none⟩) n n) (List.replicate n x)->Ext w w'->w.heap.size<=g->k (.slice (some ⟨g,0,none⟩) n n) w'):SemV P (Instr.makeSlice t (.int .i64 n) (.int .i64 n)) k pn w:=by
 obtain⟨i,hi,hz0,hs,hby⟩:=info_parts he.h
 subst hsz
 obtain⟨w',h1,h2,h3⟩:=run_make_full (P:=P) w B t e i z (Enc.sz α) ht.h hi hz0 hs .i64 .i64 n (by rw [hby];exact hb.1) (by unfold maxLen;omega) hB
 rw [zHZ z.cells x hz n] at h2
 refine SemV.of h1 (hk _ w' (.inr (by simpa using h2)) ((Fr.grown h3 λ_ _ hr=>by cases hr).mono λ_ _ h=>by simp at h) (Nat.le_refl _))
theorem rslO{t e:TypeId}{z:Value}{sz by':Nat}[ht:SlT P t e][he:Elem P e z sz by']{c:Nat}{l:List α}(lo hi:Option Nat)(h:Own B e w (.slice a n c) l)(h1:lo.getD 0<=hi.getD n)(h2:hi.getD n<=n)
  (hk:∀a' c',(hi.getD n - lo.getD 0=0\/∃g,Value.blk (.slice a n c)=some g/\a'=some ⟨g,lo.getD 0*sz,none⟩)->k (.slice a' (hi.getD n - lo.getD 0) c') w):SemV P (Instr.sliceAt t (.slice a n c) (loV lo) (loV hi) none) k pn w:=by
 have hnc:n<=c:=by obtain⟨a',c',hv,hc,_⟩:=h.sl;cases hv;exact hc
 refine SemV.of (zBk ht he lo hi h1 (by omega) w) (hk _ _ ?_)
 by_cases h0:hi.getD n - lo.getD 0=0
 ·exact .inl h0
 ·right
  have hn:n=l.length:=by obtain⟨a',c',hv,hc,_⟩:=h.sl;cases hv;rfl
  obtain⟨g,cur,rfl,_⟩:=h.blk (by intro h0;subst h0;simp at hn;omega)
  exact⟨g,rfl,by rw [if_neg (by omega)];simp [zAv]⟩
theorem rcp'{dT sT ty e:TypeId}{z:Value}{sz by':Nat}[ht:SlT P dT e][he:Elem P e z sz by'](hsz:Enc.sz α=sz){v x:Value}{l m:List α}{dn dc:Nat}(lo:Nat)(hO:Own B e w v l)(hS:SlF w x m)
  (hd:dn=0\/∃g,Value.blk v=some g/\a'=some ⟨g,lo*sz,none⟩)(hle:lo+dn<=l.length)(hmd:m.length<=dn)
  (hk:∀w',Own B e w' v (l.take lo++m++l.drop (lo+m.length))->Fr (ownD B v) w w'->w'.heap.size=w.heap.size->k (.int .i64 m.length) w'):SemV P (Builtin.copy_ #[dT,sT] ty #[.slice a' dn dc,x]) k pn w:=by
 obtain⟨i,hi,_,hs,_⟩:=info_parts he.h
 subst hsz
 obtain⟨xa,xc,rfl,hxc,hx⟩:=hS
 by_cases hm0:m=[]
 ·subst hm0
  have hres:l.take lo++[]++l.drop (lo+([]:List α).length)=l:=by simp
  refine SemV.of (v:=.int .i64 ((0:Nat):Int)) (w':=w) ?_ (hk w (by rw [hres];exact hO) (Fr.refl _ w) rfl)
  cases xa <;> cases a' <;> simp [Builtin.copy_,run_underlying ht.h,Builtin.lenOf,sizeOf,typeInfo,hi,Builtin.firstCells,loadCells,loadCellsFrom,storeCells,goInt]
 ·have hml:0<m.length:=by cases m;exact absurd rfl hm0;simp
  rcases hx with hx|⟨b,o,rfl,hat⟩
  ·exact absurd hx hm0
  rcases hd with hd|⟨g,hg,rfl⟩
  ·omega
  have hl0:l≠[]:=by intro h0;subst h0;simp at hle;omega
  have hoff:lo*Enc.sz α+(flat m).length<=l.length*Enc.sz α:=by
   rw [zAm,<-Nat.add_mul];exact Nat.mul_le_mul_right _ (by omega)
  have hspl:splice (flat l) (lo*Enc.sz α) (flat m)=flat (l.take lo++m++l.drop (lo+m.length)):=by
   simp only [flat_append,zB9,zB8,splice,zAm,<-Nat.add_mul]
  obtain⟨cur,hcur,hfit,hw⟩:=hO.stored (l':=l.take lo++m++l.drop (lo+m.length)) (vs:=flat m) hg hl0 (by simp;omega) hoff hspl
  have hnews:∀j u,(flat m)[j]? = some u->w.cell? ((⟨b,o,none⟩:Addr).add j)=some u:=λj u hj=>by rw [zAv];exact hat j u hj
  have hld:=run_firstCells_some (P:=P) w (Enc.sz α) m.length ⟨b,o,none⟩ m.length xc (flat m) (zAm m) hnews
  have hst:=run_storeCells_at P g (lo*Enc.sz α) e (flat m) 0 cur w hcur (by simpa using hfit) (zBS m)
  simp only [Nat.add_zero] at hst
  have hmin:Nat.min m.length dn=m.length:=Nat.min_eq_left hmd
  have hB:B<=g:=by obtain⟨g',hg',hB,_⟩:=hO.lt hl0;rw [hg] at hg';cases hg';exact hB
  refine SemV.of (v:=.int .i64 (m.length:Int)) (w':=w.setRow g (splice cur.toList (lo*Enc.sz α) (flat m)).toArray) ?_ (hk _ (hw _ (setRow_heap w g cur _ e _ hcur)) ((Fr.setRow w g _).mono λj _ hj=>⟨by omega,by rw [hj];exact hg,hO.not0 hl0⟩) (by simp))
  simp only [Builtin.copy_,Builtin.lenOf,sizeOf,typeInfo]
  simp [hst,goInt,splice,run_underlying ht.h,hmin,hld,hi,hs]
theorem rstO{t:TypeId}{sz:Nat}[ht:Size P t sz](hsz:Enc.sz α=sz){e:TypeId}{v:Value}{l:List α}{g:Nat}{y:Value}(x:α)(h:Own u.heap.size e w v l)(hb:Value.blk v=some g)(hi:i<l.length)(hu:y.cells.toList=enc x)
  (hk:∀w',Own u.heap.size e w' v (l.set i x)->Fr (ownD u.heap.size v) w w'->Stw u w w'->w'.heap.size=w.heap.size->k undef w'):SemU P (Instr.storeAt t (.pointer (some ⟨g,i*sz,none⟩)) y) k pn w:=
 rstO' hsz x h hb hi hu λw' h1 h2 h3=>hk w' h1 h2 (zAz h2) h3
theorem rmk{t e:TypeId}{z:Value}{sz by':Nat}[ht:SlT P t e][he:Elem P e z sz by'](x:α)(hsz:Enc.sz α=sz)(hz:z.cells.toList=enc x)(hb:by'*n<=281474976710656/\n<=9223372036854775807)
  (hk:∀g w',Own w.heap.size e w' (.slice (some ⟨g,0,none⟩) n n) (List.replicate n x)->Stp w w'->w.heap.size<=g->k (.slice (some ⟨g,0,none⟩) n n) w'):SemV P (Instr.makeSlice t (.int .i64 n) (.int .i64 n)) k pn w:=
 rmk' x hsz hz (Nat.le_refl _) hb λg w' a b c=>hk g w' a ⟨b⟩ c
theorem rcp{dT sT ty e:TypeId}{z:Value}{sz by':Nat}[ht:SlT P dT e][he:Elem P e z sz by'](hsz:Enc.sz α=sz){v x:Value}{l m:List α}{dn dc:Nat}(lo:Nat)(hO:Own u.heap.size e w v l)(hS:SlF w x m)
  (hd:dn=0\/∃g,Value.blk v=some g/\a'=some ⟨g,lo*sz,none⟩)(hle:lo+dn<=l.length)(hmd:m.length<=dn)
  (hk:∀w',Own u.heap.size e w' v (l.take lo++m++l.drop (lo+m.length))->Fr (ownD u.heap.size v) w w'->Stw u w w'->w'.heap.size=w.heap.size->k (.int .i64 m.length) w'):SemV P (Builtin.copy_ #[dT,sT] ty #[.slice a' dn dc,x]) k pn w:=
 rcp' hsz lo hO hS hd hle hmd λw' a b c=>hk w' a b (zAz b) c
end
end Go.W
namespace Go.W
open Go
variable {B N i j k m n:Nat} {D:Nat -> Prop} {P:Program} {a a':Option Addr} {u u' w w':World}
class FnAt (P:Program) (f:FuncId) (fn:outParam Func) (n:outParam Nat):Prop where
 hf:P.funcs[f]? = some fn
 hn:fn.ntmps=n
 hb:fn.body.isSome=true
 hm : (fn.name == "runtime.NumGoroutine") = false
theorem en{T:Tab}(hT:T.ok P=true){f:FuncId}{fn:Func}[h:FnAt P f fn n]{args:Array Value}{R:Value->World->Prop}(hs:Nat.ble args.size n=true)
  (hc:S P T n (codeOf fn) (retK P fn.results.toList R (λ_ _=>False)) (argF args.toList) w)(hk:Nat.ble n 4294967296=true:=by rfl)(hr:T.round=false:=by rfl):Sp P f args w R:=
 Sp.enter hT hr h.hf h.hn h.hb h.hm hs hk hc
end Go.W
set_option linter.unusedSimpArgs false
namespace Go.W
open Go
open Enc (enc)
variable {B N i j k m n:Nat} {D:Nat -> Prop} {P:Program} {a a':Option Addr} {u u' w w':World}
section
variable {P:Program} {k:Value->World->Prop} {pn:List PanicEntry->World->Prop} {w:World}
theorem zG9(a b:ByteArray):(a.toList==b.toList)=true↔a=b:=by
 rw [beq_iff_eq,ByteArray.toList_eq,ByteArray.toList_eq]
 constructor
 ·intro h
  have:a.data=b.data:=Array.toList_inj.1 h
  cases a;cases b;simp_all
 ·rintro rfl;rfl
theorem zFG(op:BinOp)(t:TypeId)(x y:Operand)(a b:ByteArray)(w:World):(eqGuard op t x y (.string a) (.string b)).run P w=.ok () w:=by
 cases op <;> rfl
theorem zFT{t:TypeId}{x y:Operand}{a b:ByteArray}(w:World):(do eqGuard .eql t x y (.string a) (.string b);binOp .eql t (.string a) (.string b):Sem Value).run P w=.ok (.bool (a.toList==b.toList)) w:=by
 rw [Sem.run_bind,zFG];simp [binOp_string_eql]
theorem zKm{t:TypeId}{x y:Operand}{a b:ByteArray}(w:World):(do eqGuard .neq t x y (.string a) (.string b);binOp .neq t (.string a) (.string b):Sem Value).run P w=.ok (.bool (!(a.toList==b.toList))) w:=by
 rw [Sem.run_bind,zFG];simp [binOp_string_neq]
theorem zFt{s:Sem Value}{p:Prop}(b:Bool)(h:s.run P w=.ok (.bool b) w)(hb:b=true↔p)(h1:p->k (.bool true) w)(h2:¬p->k (.bool false) w):SemV P s k pn w:=by
 refine SemV.of h ?_
 cases b
 ·exact h2 λhp=>by have:=hb.2 hp;cases this
 ·exact h1 (hb.1 rfl)
theorem zNx{s:Sem Value}{p:Prop}{k:Value->Prop}(b:Bool)(h:∀w',s.run P w'=.ok (.bool b) w')(hb:b=true↔p)(h1:p->k (.bool true))(h2:¬p->k (.bool false)):TakeS P s D k w:=by
 rw [zAg]
 refine⟨_,λw' _=>h w',?_⟩
 cases b
 ·exact h2 λhp=>by have:=hb.2 hp;cases this
 ·exact h1 (hb.1 rfl)
theorem zKC{b:Bool}{p:Prop}(h:b=true↔p):(!b)=true↔¬p:=by cases b <;> simp_all
theorem rseq{t:TypeId}{x y:Operand}{a b:ByteArray}(h1:a=b->k (.bool true) w)(h2:a≠b->k (.bool false) w):SemV P (do eqGuard .eql t x y (.string a) (.string b);binOp .eql t (.string a) (.string b)) k pn w:=
 zFt _ (zFT w) (zG9 a b) h1 h2
theorem rsne{t:TypeId}{x y:Operand}{a b:ByteArray}(h1:a≠b->k (.bool true) w)(h2:a=b->k (.bool false) w):SemV P (do eqGuard .neq t x y (.string a) (.string b);binOp .neq t (.string a) (.string b)) k pn w:=
 zFt _ (zKm w) (zKC (zG9 a b)) h1 λh=>h2 (Classical.not_not.1 h)
theorem tseq{t:TypeId}{x y:Operand}{a b:ByteArray}{k:Value->Prop}(h1:a=b->k (.bool true))(h2:a≠b->k (.bool false)):TakeS P (do eqGuard .eql t x y (.string a) (.string b);binOp .eql t (.string a) (.string b)) D k w:=
 zNx _ (λw'=>zFT w') (zG9 a b) h1 h2
theorem zGl(d:Nat){t:TypeId}(ht:P.underlying t=some .bool)(a b:Bool)(w:World):(Op.equalIn (d+1) t (.bool a) (.bool b)).run P w=.ok (a==b) w:=by
 simp [Op.equalIn,run_underlying ht]
theorem zJJ{t:TypeId}(ht:P.underlying t=some .bool)(a b:Bool)(w:World):(binOp .neq t (.bool a) (.bool b)).run P w=.ok (.bool (!(a==b))) w:=by
 simp only [binOp]
 simp [Op.equal,Op.maxDepth,zGl 9999 ht]
class BoolT (P:Program) (t:TypeId):Prop where
 h:P.underlying t=some .bool
theorem zOh{t:TypeId}(ht:BoolT P t){x y:Operand}{a b:Bool}(w:World):(do eqGuard .neq t x y (.bool a) (.bool b);binOp .neq t (.bool a) (.bool b):Sem Value).run P w=.ok (.bool (!(a==b))) w:=by
 rw [Sem.run_bind,show (eqGuard .neq t x y (.bool a) (.bool b)).run P w=.ok () w from rfl,Result.andThen_ok,zJJ ht.h]
theorem rbne{t:TypeId}[ht:BoolT P t]{x y:Operand}{a b:Bool}(h1:a≠b->k (.bool true) w)(h2:a=b->k (.bool false) w):SemV P (do eqGuard .neq t x y (.bool a) (.bool b);binOp .neq t (.bool a) (.bool b)) k pn w:=
 zFt _ (zOh ht w) (zKC beq_iff_eq) h1 λh=>h2 (Classical.not_not.1 h)
theorem rmax{at':Array TypeId}{ty:TypeId}{x y:Int}(hk:k (.int .i64 (max x y)) w):SemV P (Builtin.max_ at' ty #[.int .i64 x,.int .i64 y]) k pn w:=
 SemV.of (v:=.int .i64 (max x y)) (w':=w) (by simp [Builtin.max_,Builtin.max2];split <;> omega) hk
end
abbrev agg {α:Type} [Enc α] (x:α):Value:=.agg (enc x).toArray
structure RQ where
 kind:Int
 frm:Int
 to:Int
 words:SV
 rad:Int
 most:Int
instance:Enc RQ:=⟨6,λx=>[.int .i64 x.kind,.int .i64 x.frm,.int .i64 x.to,x.words.v,.int .i64 x.rad,.int .i64 x.most],λ_=>rfl,
 by intro x u hu;simp [SV.v] at hu;rcases hu with h|h|h|h|h|h <;> subst h <;> rfl,by decide⟩
structure RReq where
 id:Int
 kind:Int
 q:RQ
instance:Enc RReq:=⟨8,λx=>.int .i64 x.id::.int .i64 x.kind::enc x.q,λ_=>rfl,
 by intro x u hu;simp at hu;rcases hu with h|h|h;(subst h;rfl);(subst h;rfl);exact Enc.one _ _ h,by decide⟩
structure RHeld where
 used:Bool
 r:RReq
instance:Enc RHeld:=⟨9,λx=>.bool x.used::enc x.r,λ_=>rfl,
 by intro x u hu;simp at hu;rcases hu with h|h;(subst h;rfl);exact Enc.one _ _ h,by decide⟩
abbrev Wd:=SV->List ByteArray
def Tells (p:Prop) (v:Value):Prop:=(v=.bool true/\p)\/(v=.bool false/\¬p)
theorem Tells.t{p:Prop}(h:p):Tells p (.bool true):=.inl ⟨rfl,h⟩
theorem Tells.f{p:Prop}(h:¬p):Tells p (.bool false):=.inr ⟨rfl,h⟩
end Go.W
set_option warn.classDefReducibility false
set_option linter.unusedSimpArgs false
namespace Go.W
open Go
open Enc (enc)
variable {B N i j k m n:Nat} {D:Nat -> Prop} {P:Program} {a a':Option Addr} {u u' w w':World}
section
variable {P:Program}
class Rd (P:Program) (t:TypeId) (α:Type) [Enc α] where
 G:World->α->Prop
 cells:P.cellsOf t=Enc.sz α
 rd:∀{H:Type} {eH:TypeId×Value->H} {w:World} {sp:Nat->Bool} {fuel:Nat} {cs:List Value} {x:DataW H×List MemPlace},DataW.trod eH P w 0 sp true fuel t cs=some x->∃a:α,cs=enc a/\G w a
def rdInt {t:TypeId} (h:P.underlying t=some (.int .i64)) (hc:P.cellsOf t=1):Rd P t Int where
 G _ q:=-9223372036854775808<=q/\q<=9223372036854775807
 cells:=hc
 rd:=by
  intro H eH w sp fuel cs x hx
  cases fuel with
  |zero=>simp [DataW.trod] at hx
  |succ n =>
   unfold DataW.trod at hx
   rw [h] at hx
   split at hx <;> simp_all
   obtain⟨⟨rfl,hw⟩,_⟩:=hx
   subst_vars
   refine⟨_,rfl,?_⟩
   simp [Lit.wf,IntKind.min,IntKind.max,IntKind.signed,IntKind.bits] at hw
   omega
def rdBool {t:TypeId} (h:P.underlying t=some .bool) (hc:P.cellsOf t=1):Rd P t Bool where
 G _ _:=True
 cells:=hc
 rd:=by
  intro H eH w sp fuel cs x hx
  cases fuel with
  |zero=>simp [DataW.trod] at hx
  |succ n =>
   unfold DataW.trod at hx
   rw [h] at hx
   split at hx
   case h_1=>exact⟨_,rfl,trivial⟩
   all_goals simp_all
def rdStr {t:TypeId} (h:P.underlying t=some .string) (hc:P.cellsOf t=1):Rd P t ByteArray where
 G _ s:=s.size<=maxLen
 cells:=hc
 rd:=by
  intro H eH w sp fuel cs x hx
  cases fuel with
  |zero=>simp [DataW.trod] at hx
  |succ n =>
   unfold DataW.trod at hx
   rw [h] at hx
   split at hx <;> simp_all
   exact⟨_,rfl,hx.1⟩
theorem At.app{b o:Nat}{l m:List Value}(h1:At w b o l)(h2:At w b (o+l.length) m):At w b o (l++m):=by
 intro j v hj
 rw [List.getElem?_append] at hj
 split at hj
 ·exact h1 j v hj
 ·have:=h2 _ v hj
  rwa [show o+l.length+(j - l.length)=o+j by omega] at this
theorem At.flat{α:Type}[Enc α]{b:Nat}:∀{l:List α} {o:Nat},(∀(i:Nat) (x:α),l[i]? = some x->At w b (o+i*Enc.sz α) (enc x))->At w b o (Go.W.flat l):=by
 intro l
 induction l with
 |nil=>intro o _ j v hj;simp at hj
 |cons x r ih =>
  intro o h
  refine At.app (by simpa using h 0 x rfl) (ih λi y hy=>?_)
  have:=h (i+1) y (by simpa using hy)
  rwa [Enc.len,show o+Enc.sz α+i*Enc.sz α=o+(i+1)*Enc.sz α by rw [Nat.add_mul];omega]
theorem zN2{α:Type}{p:Nat->α->Prop}:∀{n:Nat},(∀i,i<n->∃a,p i a)->∃l:List α,l.length=n/\∀i a,l[i]? = some a->p i a:=by
 intro n
 induction n with
 |zero=>intro _;exact⟨[],rfl,by simp⟩
 |succ n ih =>
  intro h
  obtain⟨l,hl,hp⟩:=ih λi hi=>h i (by omega)
  obtain⟨a,ha⟩:=h n (by omega)
  refine⟨l++[a],by simp [hl],λi b hb=>?_⟩
  rw [List.getElem?_append] at hb
  split at hb
  ·exact hp i b hb
  ·rename_i hge
   cases hk:i - l.length with
   |zero=>rw [hk] at hb;simp at hb;subst hb;rwa [show i=n by omega]
   |succ k=>rw [hk] at hb;simp at hb
theorem zJE{α:Type}[Enc α]{t e:TypeId}[R:Rd P e α](ht:P.underlying t=some (.slice e)){H:Type}{eH:TypeId×Value->H}{sp:Nat->Bool}{fuel:Nat}{cs:List Value}{x:DataW H×List MemPlace}(hx:DataW.trod eH P w 0 sp true fuel t cs=some x):
  ∃a n c,∃l:List α,cs=[.slice a n c]/\SlF w (.slice a n c) l/\(∀y∈l,R.G w y)/\c<=maxLen/\n<=c:=by
 rcases DataW.trod_slice ht hx with ⟨rfl,_⟩|⟨a,len,cap,elems,rest,n,_,rfl,_,_,hl,hm,hlen,hel,_⟩
 ·exact⟨none,0,0,[],rfl,SlF.nil w,by simp,by decide,Nat.le_refl _⟩
 ·have hex:∀i,i<len->∃y:α,(∃c,w.cells? 0 (a.add (i*P.cellsOf e)) (P.cellsOf e)=some c/\c=enc y)/\R.G w y:=by
   intro i hi
   have hE:=hel i hi
   rw [List.getElem?_eq_getElem (by omega),Option.bind_eq_some_iff] at hE
   obtain⟨c,h1,h2⟩:=hE
   obtain⟨y,h3,h4⟩:=R.rd h2
   exact⟨y,⟨c,h1,h3⟩,h4⟩
  obtain⟨l,hll,hp⟩:=zN2 hex
  refine⟨some a,len,cap,l,rfl,⟨_,_,by rw [hll],by rw [hll];exact hl,?_⟩,?_,hm,hl⟩
  ·by_cases h0:l=[]
   ·exact .inl h0
   ·right
    have hpos:=Enc.pos (α:=α)
    have hc:=R.cells
    have hl0:0<l.length:=by cases l;exact absurd rfl h0;simp
    have hspot:a.spot=none:=by
     obtain⟨⟨c,h1,h2⟩,_⟩:=hp 0 l[0] (by simp [hl0])
     obtain⟨_,h3,h4⟩:=World.cells?_some h1
     have:=h4 0 (by omega)
     rw [List.getElem?_eq_getElem (by omega)] at this
     have h5:(a.add (0*P.cellsOf e)).add 0=a:=by simp [Addr.add]
     rw [h5] at this
     unfold World.cell? at this
     split at this
     ·split at this
      ·cases this
      ·rename_i hs;simpa using hs
     ·cases this
    obtain⟨ab,ao,as⟩:=a
    simp only at hspot;subst hspot
    refine⟨ab,ao,rfl,At.flat λi y hy=>?_⟩
    obtain⟨⟨c,h1,rfl⟩,_⟩:=hp i y hy
    obtain⟨_,h3,h4⟩:=World.cells?_some h1
    intro j v hj
    have hjl:j<(enc y).length:=(List.getElem?_eq_some_iff.1 hj).1
    have:=h4 j (by omega)
    rw [zAv,zAv,hc] at this
    rw [this];exact hj
  ·intro y hy
   obtain⟨i,hi,rfl⟩:=List.mem_iff_getElem.1 hy
   exact(hp i _ (by simp [hi])).2
def rdSl {α:Type} [Enc α] {t e:TypeId} [R:Rd P e α] (ht:P.underlying t=some (.slice e)) (hc:P.cellsOf t=1):Rd P t SV where
 G w s:=∃l:List α,SlF w s.v l/\(∀y∈l,R.G w y)/\s.c<=maxLen/\s.n<=s.c
 cells:=hc
 rd:=by
  intro H eH w sp fuel cs x hx
  obtain⟨a,n,c,l,rfl,h1,h2,h3,h4⟩:=zJE (α:=α) ht hx
  exact⟨⟨a,n,c⟩,rfl,l,h1,h2,h3,h4⟩
def strB (P:Program) (t:TypeId) (fl:List (TypeId×Nat×Nat)) (n:Nat):Bool:=
 match P.underlying t with
 |some (.struct fs)=>decide (fs.toList.map (λf=>(f.type,f.offset,P.cellsOf f.type))=fl) && P.cellsOf t==n
 |_=>false
theorem zH8{t:TypeId}{fl:List (TypeId×Nat×Nat)}(h:strB P t fl n=true){H:Type}{eH:TypeId×Value->H}{sp:Nat->Bool}{fuel:Nat}{cs:List Value}{x:DataW H×List MemPlace}(hx:DataW.trod eH P w 0 sp true fuel t cs=some x):
  cs.length=n/\∀(i:Nat) (ft:TypeId) (off sz:Nat),fl[i]? = some (ft,off,sz)->∃fuel y,DataW.trod eH P w 0 sp true fuel ft ((cs.drop off).take sz)=some y:=by
 unfold strB at h
 split at h
 ·rename_i fs hfs
  rw [Bool.and_eq_true] at h
  obtain⟨h1,h2⟩:=h
  obtain⟨xs,m,_,_,h3,h4,h5⟩:=DataW.trod_struct hfs hx
  refine⟨by rw [h3];exact of_decide_eq_true (by simpa using h2),λi ft off sz hi=>?_⟩
  rw [<-of_decide_eq_true h1,List.getElem?_map,Option.map_eq_some_iff] at hi
  obtain⟨f,hf,he⟩:=hi
  injection he with e1 he;injection he with e2 e3
  subst e1;subst e2;subst e3
  have hf':fs[i]? = some f:=by simpa using hf
  have:=h5 i f hf'
  have hlt:i<xs.length:=by rw [h4];exact(Array.getElem?_eq_some_iff.1 hf').1
  rw [List.getElem?_eq_getElem hlt] at this
  exact⟨m,_,this⟩
 ·cases h
theorem zBi{α:Type}[Enc α]{t:TypeId}{fl:List (TypeId×Nat×Nat)}{H:Type}{eH:TypeId×Value->H}{sp:Nat->Bool}{cs:List Value}(hf:∀(i:Nat) (ft:TypeId) (off sz:Nat),fl[i]? = some (ft,off,sz)->∃fuel y,DataW.trod eH P w 0 sp true fuel ft ((cs.drop off).take sz)=some y)
  (i:Nat){off sz:Nat}[R:Rd P t α](hi:fl[i]? = some (t,off,sz)):∃a:α,(cs.drop off).take sz=enc a/\R.G w a:=by
 obtain⟨fuel,y,h⟩:=hf i t off sz hi
 exact R.rd h
theorem tile{cs:List Value}{off sz:Nat}{a r:List Value}(h:(cs.drop off).take sz=a)(hr:cs.drop n=r)(hn:off+sz=n):cs.drop off=a++r:=by
 subst hn;rw [<-h,<-hr,<-List.drop_drop,List.take_append_drop]
theorem tile0{cs:List Value}(h:cs.length=n):cs.drop n=[]:=List.drop_eq_nil_of_le (by omega)
theorem notAgg{W:World}{b:Nat}{t:TypeId}{v:Value}{cs:Array Value}(h:Value.okWide P W .any b t v)(hv:v=.agg cs):(∃fs,P.underlying t=some (.struct fs))\/∃n e,P.underlying t=some (.array n e):=by
 subst hv
 unfold Value.okWide at h
 split at h
 ·rename_i fs hf;exact .inl ⟨fs,hf⟩
 ·rename_i n e hf;exact .inr ⟨n,e,hf⟩
 ·rename_i h1 h2
  unfold Cell.okWide Cell.ok at h
  split at h <;> try cases ‹Value.agg cs=_›
  split at h <;> first|cases ‹Value.agg cs=_› | cases h
theorem zKy{W:World}{b:Nat}{t:TypeId}{v u:Value}(h:Value.okWide P W .any b t v)(hn:(match P.underlying t with|some (.struct _)=>false|some (.array _ _)=>false|_=>true)=true)(hc:v.cells.toList=[u]):v=u:=by
 cases v <;> first
  |(simp [Value.cells] at hc;exact hc)
  |(rename_i cs;rcases notAgg h rfl with ⟨fs,hf⟩|⟨n,e,hf⟩ <;> rw [hf] at hn <;> cases hn)
theorem zNI{W:World}{b:Nat}{t:TypeId}{v:Value}{cs:List Value}(h:Value.okWide P W .any b t v)(hn:(match P.underlying t with|some (.struct _)=>true|some (.array _ _)=>true|_=>false)=true)(hc:v.cells.toList=cs):v=.agg cs.toArray:=by
 unfold Value.okWide at h
 split at h
 ·obtain⟨c,rfl,_⟩:=h;simp [Value.cells] at hc;simp [<-hc]
 ·obtain⟨c,rfl,_⟩:=h;simp [Value.cells] at hc;simp [<-hc]
 ·rename_i h1 h2
  split at hn
  ·exact absurd ‹_› (h1 _)
  ·exact absurd ‹_› (h2 _ _)
  ·cases hn
theorem zFf{H:Type}{eH:TypeId×Value->H}(hl:laidOutB P=true){W W':World}(hb:Go.RowKit.Below W.heap.size W W'):∀{ts:List TypeId} {vs:List Value} {ds:List (DataW H)} {ps:List MemPlace},ts.all (λt=>P.readableRec t && decide (t<P.types.size))=true ->
  DataW.TrodAll eH P W 0 (λ_=>true) true ts vs ds ps->(∀x∈ps,x.block<W.heap.size)->DataW.TrodAll eH P W' 0 (λb=>decide (b<W.heap.size)) true ts vs ds ps
 |[],[],[],_,_,h,_=>h
 |[],[],_::_,_,_,h,_=>h.elim
 |[],_::_,_,_,_,h,_=>h.elim
 |_::_,[],_,_,_,h,_=>h.elim
 |_::_,_::_,[],_,_,h,_=>h.elim
 |t::ts,v::vs,d::ds,ps,ht,⟨p,q,h1,h2,e⟩,hlt=>by
  simp only [List.all_cons,Bool.and_eq_true,decide_eq_true_eq] at ht
  subst e
  exact⟨p,q,Go.RowKit.Below.trod hl ht.1.1 ht.1.2 h1 hb λx hx=>hlt x (List.mem_append_left _ hx),
   zFf hl hb (by simpa using ht.2) h2 λx hx=>hlt x (List.mem_append_right _ hx),rfl⟩
theorem Ext.kept{W W':World}{may:MemPlace->Prop}(h:Ext W W'):W.keptBut W' may:=by
 refine⟨h.os,h.output,λi hi=>?_⟩
 rw [h.below.block i hi]
 have:∃o,W.heap[i]? = some o:=⟨_,Array.getElem?_eq_getElem hi⟩
 obtain⟨o,ho⟩:=this
 rw [ho]
 cases o <;> simp
theorem zB6{H:Type}{eH:TypeId×Value->H}{W:World}{b:Nat}{sp:Nat->Bool}{hd:Bool}:∀{ts:List TypeId} {vs:List Value} {ds:List (DataW H)} {ps:List MemPlace},DataW.TrodAll eH P W b sp hd ts vs ds ps->ds.length=ts.length
 |[],[],[],_,_=>rfl
 |[],[],_::_,_,h=>h.elim
 |[],_::_,_,_,h=>h.elim
 |_::_,[],_,_,h=>h.elim
 |_::_,_::_,[],_,h=>h.elim
 |_::_,_::_,_::_,_,⟨_,_,_,h,_⟩=>congrArg (· + 1) (zB6 h)
theorem zMX{C:Checked}{os:Os}{f:FuncId}{fn:Func}{s:ChangeSpec}{H:Type}{eH:TypeId×Value->H}{tb:TypeId}
  (own:ownKnob C.prog.godebug=none)(started:os.Started)(noInit:C.prog.inits.idxOf? f=none)(hfn:C.prog.funcs[f]? = some fn)
  (witness:∃(w:World) (tape:Tape) (i:Input),w.os=os/\(w.forCall tape i).Shaped C.prog/\i.vars=[]/\Input.okWide C.prog (w.forCall tape i) .any w.heap.size f i /\
   s.pre6 eH C.prog fn [] false (w.forCall tape i).memory i.args/\({}:Assume).holds C.prog (lone (Frame.enter C.prog f i.args .normal) [] (w.forCall tape i)))
  (hl:laidOutB C.prog=true)(hrd:fn.params.toList.all (λt=>C.prog.readableRec t && decide (t<C.prog.types.size))=true)(hv:s.vars=[])(hr:fn.resultTypes=#[tb])(hb:C.prog.underlying tb=some .bool)
  (hs:∀ds:List (DataW H),ds.length=fn.params.size->s.fn H ds = { results:=[.lit (.bool true)],args:=ds })
  (law:∀(W:World) (base:Nat) (args:Array Value) (ds:List (DataW H)) (ps:List MemPlace),(∀(j:Nat) t v,fn.params[j]? = some t->args[j]? = some v->Value.okWide C.prog W .any base t v) ->
   DataW.TrodAll eH C.prog W 0 (λ_=>true) true fn.params.toList args.toList ds ps->(DataW.weightsEach C.prog fn.params.toList ds).all (·<=reachBytes)=true->Sp C.prog f args W λv W'=>v=.bool true/\Ext W W'):
  ReturnsInHanded {} C os f .any (s.pre6 eH C.prog fn [] false) (s.post eH C.prog fn false true false false):=by
 refine returnsInHanded_of_change_sized own started noInit hfn witness ?_
 intro W base args ds gs before hval hW _ hwt _
 have hlt:=hW.lt
 have hW':=hW
 obtain⟨p,q,hA,hV,rfl,hfz,hnd⟩:=hW
 rw [hv] at hV
 have hgs:gs=[]/\q=[]:=by
  cases gs with
  |nil=>exact⟨rfl,hV⟩
  |cons g r=>exact hV.elim
 obtain⟨rfl,rfl⟩:=hgs
 have hwt':(DataW.weightsEach C.prog fn.params.toList ds).all (·<=reachBytes)=true:=by
  have:s.plain.varTypes C.prog=[]:=by simp [DataSpec.varTypes,ChangeSpec.plain,hv]
  rw [this] at hwt;simpa using hwt
 refine(law W base args ds p hval hA hwt').calls.mono λe W' he=>?_
 cases e <;> try exact he.elim
 rename_i v
 obtain⟨rfl,he⟩:=he
 refine⟨_,rfl,ds,[],p++[],[],p,[],hW',?_,?_,?_,he.kept,λh=>by cases h⟩
 ·rw [List.append_nil,hs ds (by have:=zB6 hA;simpa using this),hr]
  exact Go.ChangeShapes.trodAll_mk1 (Go.RowKit.shut_bool hb _)
 ·rw [List.append_nil,hs ds (by have:=zB6 hA;simpa using this)]
  exact zFf hl he.below hrd hA λx hx=>hlt x (by simpa using hx)
 ·rw [List.append_nil,hs ds (by have:=zB6 hA;simpa using this),hv]
  rfl
end
end Go.W
namespace Go.W
open Go
open Enc (enc)
variable {B N i j k m n:Nat} {D:Nat -> Prop} {P:Program} {a a':Option Addr} {u u' w w':World}
structure YieldS (P:Program) (l:Nat) (vs:List Value) (w:World) (R:Bool->World->Prop):Prop where
 out:∃r:Loop,w.heap[l]? = some (.loop r)/\vs.length=r.params.size /\
  RoundIn Fence.wide 0 P l r.fn ((r.params.zip vs.toArray).foldl (λtmps (t,a)=>tmps.setIfInBounds t a) r.tmps) r.assign r.body w (RetP (λv w'=>∃b,v=.bool b/\R b w') (λ_ _=>False))
abbrev yl (l:Nat):Value:=.func (.yield l) #[] #[]
section
variable {P:Program}
theorem ryield{o:Oper}{F:Nat->Value}{c:Call}{f:Operand}{l:Nat}{vs:List Value}{k:Value->World->Prop}{pn:List PanicEntry->World->Prop}
  (ho:o.op=.call c)(hc:c.callee=.value f)(hf:ev F f=yl l)(hv:evL F c.args.toList=vs){R:Bool->World->Prop}(h:YieldS P l vs w R)(hk:∀b w',R b w'->k (.bool b) w'):NextS P (execOp (ev F) o) k pn w:=by
 obtain⟨r,h1,h2,h3⟩:=h.out
 have hva:c.args.map (ev F)=vs.toArray:=by rw [<-hv,zAY]
 have e:(execOp (ev F) o).run P w=.ok (.round l r.fn ((r.params.zip vs.toArray).foldl (λtmps (t,a)=>tmps.setIfInBounds t a) r.tmps) r.assign r.body) w:=by
  unfold execOp
  simp only [ho,resolve,hc,hf,Deferred.ofValue,hva]
  simp only [pure_bind,invoke]
  have:=run_yield (P:=P) (args:=vs.toArray) h1 (by simpa using h2)
  simpa [yl] using this
 rw [zAR,e]
 exact⟨h3.mono λe w' he=>by
  cases e with
  |returned v=>obtain⟨b,rfl,hb⟩:=he;exact hk b w' hb
  |panicked c=>exact he.elim
  |outgrown=>exact he.elim⟩
structure Qt (B:Nat) (u u':World):Prop where
 os:u'.os=u.os
 tape:u'.tape=u.tape
 output:u'.output=u.output
 size:u.heap.size<=u'.heap.size
 block:∀b o,u.heap[b]? = some o->(b<B\/isRec o=false)->u'.heap[b]? = some o
theorem Qt.of_ext(e:Ext u u'):Qt B u u':=⟨e.os,e.tape,e.output,e.size,λb o hb _=>by rw [e.block b (blk_lt hb) id];exact hb⟩
theorem Qt.put{l:Nat}{o o':Obj}(hl:u.heap[l]? = some o)(ho:isRec o=true)(hB:B<=l):Qt B u (u.putObj l o'):=
 ⟨rfl,rfl,rfl,by simp,λb x hb hx=>by
  rw [World.putObj_heap_other]
  ·exact hb
  ·rintro rfl
   rw [hl] at hb;cases hb
   rcases hx with h|h
   ·omega
   ·rw [ho] at h;cases h⟩
theorem Fr.qt(h:Fr D w u)(q:Qt w.heap.size u u'):Fr D w u':=
 ⟨q.os.trans h.os,q.tape.trans h.tape,q.output.trans h.output,Nat.le_trans h.size q.size,λb hb hd=>by
  have h1:=h.block b hb hd
  rw [<-h1]
  have:∃o,u.heap[b]? = some o:=⟨_,Array.getElem?_eq_getElem (Nat.lt_of_lt_of_le hb h.size)⟩
  obtain⟨o,ho⟩:=this
  rw [ho];exact q.block b o ho (.inl hb),λb o hb ho=>q.block b o (h.nc b o hb ho) (.inl (blk_lt hb))⟩
theorem Stp.qt(h:Stp w u)(q:Qt w.heap.size u u'):Stp w u':=⟨h.e.qt q⟩
theorem Qt.mono{B':Nat}(q:Qt B u u')(h:B'<=B):Qt B' u u':=⟨q.os,q.tape,q.output,q.size,λb o hb ho=>q.block b o hb (ho.imp (λh'=>by omega) id)⟩
theorem zNQ(q:Qt B u u'){a:Addr}{v:Value}(hc:u.cell? a=some v):u'.cell? a=some v:=by
 have hlt:=World.block_lt_of_cell? u a hc
 have:∃o,u.heap[a.block]? = some o:=⟨_,Array.getElem?_eq_getElem hlt⟩
 obtain⟨o,ho⟩:=this
 have hr:isRec o=false:=by
  unfold World.cell? at hc
  rw [ho] at hc
  cases o <;> first|rfl|simp at hc
 rw [World.cell?_of_block (w:=u) (by rw [ho];exact q.block _ _ ho (.inr hr))];exact hc
theorem At.qt{b o:Nat}{cs:List Value}(h:At u b o cs)(q:Qt B u u'):At u' b o cs:=λj v hj=>zNQ q (h j v hj)
theorem blk_qt{b:Nat}{cs:Array Value}{e:TypeId}{z:Nat×Nat}(h:u.heap[b]? = some (.cells cs e z))(q:Qt B u u'):u'.heap[b]? = some (.cells cs e z):=q.block b _ h (.inr rfl)
theorem SlF.qt{α:Type}[Enc α]{v:Value}{l:List α}(h:SlF u v l)(q:Qt B u u'):SlF u' v l:=by
 obtain⟨a,c,hv,hc,h⟩:=h
 exact⟨a,c,hv,hc,h.imp id λ⟨b,o,ha,hat⟩=>⟨b,o,ha,hat.qt q⟩⟩
theorem Own.qt{α:Type}[Enc α]{C:Nat}{e:TypeId}{v:Value}{l:List α}(h:Own C e u v l)(q:Qt B u u'):Own C e u' v l:=by
 rcases h with h|h
 ·exact .inl h
 ·refine .inr ⟨h.1,?_⟩
  rcases h.2 with hn|⟨g,cap,cur,rfl,hb,hg,rest⟩
  ·exact .inl hn
  ·exact .inr ⟨g,cap,cur,rfl,hb,blk_qt hg q,rest⟩
structure SeqOf (P:Program) (g:FuncId) (first cap:List Value) (Dat:World->Prop) (xs:List (List Value)):Prop where
 out:∀(l:Nat) (J:Nat->World->Prop) (Jx:World->Prop) (w:World),(∀i u u',J i u->Ext u u'->J i u')->(∀u u',Jx u->Ext u u'->Jx u')->(∀i u,J i u->Dat u) ->
  (∀i u x,xs[i]? = some x->J i u->YieldS P l x u λb u'=>(b=true/\J (i+1) u')\/(b=false/\Jx u'))->J 0 w ->
  Sp P g (first++[yl l]++cap).toArray w λ_ w'=>J xs.length w'\/Jx w'
def rdF (F:Nat->Value):List Nat->List Value->Nat->Value
 |s::r,v::vs=>rdF (upd F s v) r vs
 |_,_=>upd F 4294967296 undef
theorem zE7(hn:n<=4294967296):∀(ps:List Nat) (vs:List Value) (F:Nat->Value) (a:Act),Rel n F a->(∀s∈ps,s<n)->vs.length=ps.length ->
  Rel n (rdF F ps vs) { tmps:=(ps.zip vs).foldl (λt (s,v)=>t.setIfInBounds s v) a.tmps,defers:=[] }
 |[],vs,F,a,h,_,hl=>by
  have:vs=[]:=List.eq_nil_of_length_eq_zero (by simpa using hl)
  subst this
  refine⟨h.size,hn,?_,λt ht=>?_⟩
  ·show []=decD (upd F 4294967296 undef 4294967296)
   unfold upd;rw [show Nat.beq 4294967296 4294967296=true from rfl];rfl
  ·have hb:Nat.beq t 4294967296=false:=by
    cases hq:Nat.beq t 4294967296 with
    |false=>rfl
    |true=>exact absurd (Nat.eq_of_beq_eq_true hq) ht
   show a.tmps.getD t undef=upd F 4294967296 undef t
   unfold upd;rw [hb];exact h.get t ht
 |s::r,[],_,_,_,_,hl=>by simp at hl
 |s::r,v::vs,F,a,h,hs,hl=>by
  have hput:Rel n (upd F s v) (a.put (some s) v):=by
   have hk:putS n F (some s) v (λF'=>F'=upd F s v):=by
    simp only [putS]
    have:Nat.blt s n=true:=by simpa [Nat.blt_eq] using hs s (List.mem_cons_self ..)
    rw [this];trivial
   obtain⟨F',h1,_,rfl⟩:=h.put hk
   exact h1
  have:=zE7 hn r vs (upd F s v) (a.put (some s) v) hput (λx hx=>hs x (List.mem_cons_of_mem _ hx)) (by simpa using hl)
  simpa [rdF,Act.put] using this
def allLt (n:Nat):List Nat->Bool
 |[]=>true
 |s::r=>Nat.blt s n && allLt n r
theorem zDO:∀{l:List Nat},allLt n l=true->∀s∈l,s<n
 |[],_,s,hs=>by cases hs
 |x::r,h,s,hs=>by
  simp only [allLt,Bool.and_eq_true] at h
  rcases List.mem_cons.1 hs with rfl|hs
  ·simpa [Nat.blt_eq] using h.1
  ·exact zDO h.2 s hs
abbrev markF (F:Nat->Value) (D:Nat):Nat->Value:=upd F 4294967296 (consD (.pointer (some ⟨D,0,none⟩)) (F 4294967296))
theorem fw_in(r:Option Nat)(l:Nat):(fw r).inRound l=fw (some l):=rfl
theorem rrange{T:Tab}(hT:T.ok P=true)(hr:T.round=false){g:Operand}{ps:Array Tmp}{assign body:Code}{Q:KS}{F:Nat->Value}{gf:FuncId}{first cap:List Value}{xs:List (List Value)}{Dat:World->Prop}
  (hg:ev F g=.func (.func gf) first.toArray cap.toArray)(hps:allLt n ps.toList=true)
  (hseq:SeqOf P gf first cap Dat xs)(hxs:∀x∈xs,x.length=ps.toList.length)
  (I:Nat->World->Prop)(Ix:Code->World->Prop)(hI:∀i u u',I i u->Qt w.heap.size u u'->I i u')(hIx:∀c u u',Ix c u->Qt w.heap.size u u'->Ix c u')(hD:∀i u,I i u->Dat u)(h0:I 0 w)
  (hround:∀i x u,xs[i]? = some x->I i u->S P { T with round:=true } n assign
   { nrm:=λF1 u1=>Ext u u1/\(∀c,Qt w.heap.size u1 c->S P { T with round:=true } n body { nrm:=λ_ u2=>I (i+1) u2/\∃D,Fr D c u2,ext:=λj _ u2=>Ix (.exit j) u2/\∃D,Fr D c u2,ret:=λ_ u2=>Ix .ret u2/\∃D,Fr D c u2,pan:=λ_ _ _=>False } F1 c),ext:=λ_ _ _=>False,ret:=λ_ _=>False,pan:=λ_ _ _=>False } (rdF F ps.toList x) u)
  (hdone:∀D u,I xs.length u->w.heap.size<=D->u.heap[D]? = some (.deferred (some []))->Q.nrm (markF F D) u)
  (hstop:∀c D u,Ix c u->w.heap.size<=D->u.heap[D]? = some (.deferred (some []))->match c with | .ret=>Q.ret (markF F D) u | .exit j=>Q.ext j (markF F D) u|_=>False):
  DeepS P T n (.rangeFunc g ps assign body) Q F w:=by
 rw [zAN]
 intro md hmd a ha
 have hmn:md=none:=by cases md with|none=>rfl|some _=>rw [hr] at hmd;cases hmd
 subst hmn
 refine wpIn_rangeFunc ?_
 intro fn _
 have hro:(fw none).round=none:=rfl
 rw [hro]
 obtain⟨rec,hrec⟩:∃rec:LoopState->Option Code->Loop,rec=λst pe=>{ state:=st,pending:=pe,fn,tmps:=a.tmps,params:=ps,assign,body,defers:=w.heap.size }:=⟨_,rfl⟩
 obtain⟨W1,hW1⟩:∃W1,(w.alloc (.deferred (some []))).alloc (.loop (rec .ready none))=W1:=⟨_,rfl⟩
 have hE1:Ext w W1:=by rw [<-hW1];exact(Ext.alloc w _).t (Ext.alloc _ _)
 have hL1:W1.heap[w.heap.size+1]? = some (.loop (rec .ready none)):=by
  rw [<-hW1];have:=World.alloc_heap_new (w.alloc (.deferred (some []))) (.loop (rec .ready none));rwa [World.size_alloc] at this
 have hK1:W1.heap[w.heap.size]? = some (.deferred (some [])):=by
  rw [<-hW1];exact(Go.RowKit.Below.heap_alloc _ _ _ (by simp)).trans (World.alloc_heap_new w _)
 have hgv:a.eval g=.func (.func gf) first.toArray cap.toArray:=by rw [ha.eval];exact hg
 have hiter:=hseq.out (w.heap.size+1)
  (λi u=>I i u/\u.heap[w.heap.size+1]? = some (.loop (rec .ready none))/\u.heap[w.heap.size]? = some (.deferred (some [])))
  (λu=>∃c,Ix c u/\u.heap[w.heap.size+1]? = some (.loop (rec .done (some c)))/\u.heap[w.heap.size]? = some (.deferred (some []))) W1
  (λi u u' h e=>⟨hI i u u' h.1 (.of_ext e),e.nc _ _ h.2.1 rfl,e.nc _ _ h.2.2 rfl⟩)
  (λu u' h e=>by obtain⟨c,h1,h2,h3⟩:=h;exact⟨c,hIx c u u' h1 (.of_ext e),e.nc _ _ h2 rfl,e.nc _ _ h3 rfl⟩)
  (λi u h=>hD i u h.1) ?_ ⟨hI 0 w W1 h0 (.of_ext hE1),hL1,hK1⟩
 ·refine⟨w.heap.size+1,[{ target:=.collected w.heap.size,args:=#[] }],W1,{ target:=.fn (.func gf) cap.toArray,args:=first.toArray++#[yl (w.heap.size+1)] },W1,gf,
   (first++[yl (w.heap.size+1)]++cap).toArray,W1,?_,?_,λ_ _=>trivial,?_,λh=>by simp [fw,Fence.wide] at h,?_⟩
  ·rw [<-hW1,hrec];exact run_enterLoop_outer _ _ _ _ _
  ·simp only [resolve,hgv]
   simp [Deferred.ofValue,yl,Act.eval]
  ·have:(callFunc gf (first++[yl (w.heap.size+1)]++cap).toArray).run P W1=.ok (.enter gf (first++[yl (w.heap.size+1)]++cap).toArray) W1:=zAB hiter.can W1
   simpa [invoke] using this
  ·refine zDQ none (hiter.calls.mono ?_)
   intro e u he
   have hrel:∀u:World,Rel n (markF F w.heap.size) { a with defers:=[{ target:=.collected w.heap.size,args:=#[] }]++a.defers }:=λ_=>by
    refine⟨ha.size,ha.le,?_,λt ht=>?_⟩
    ·show _::a.defers=decD (markF F w.heap.size 4294967296)
     unfold markF upd
     rw [show Nat.beq 4294967296 4294967296=true from rfl,cond_true,ha.defers]
     exact(zCZ _ _ _ rfl).symm
    ·have hb:Nat.beq t 4294967296=false:=by
      cases hq:Nat.beq t 4294967296 with
      |false=>rfl
      |true=>exact absurd (Nat.eq_of_beq_eq_true hq) ht
     show a.tmps.getD t undef=markF F w.heap.size t
     unfold markF upd;rw [hb];exact ha.get t ht
   have hag:agree (wr (.rangeFunc g ps assign body)) F (markF F w.heap.size):=by
    intro t ht
    unfold markF upd
    have:Nat.beq t 4294967296=false:=ht
    rw [this];rfl
   cases e with
   |returned v =>
    rcases he with ⟨h1,h2,h3⟩|⟨c,h1,h2,h3⟩
    ·refine⟨none,u.putObj (w.heap.size+1) (.loop { rec .ready none with state:=.exhausted }),?_,?_⟩
     ·have:=run_endLoop (P:=P) h2 (by rw [hrec];simp);rw [hrec] at this ⊢;exact this
     ·exact⟨_,hrel u,hag,hdone _ _ (hI _ _ _ h1 (Qt.put h2 rfl (by omega))) (Nat.le_refl _) ((World.putObj_heap_other (by omega)).trans h3)⟩
    ·refine⟨some c,u.putObj (w.heap.size+1) (.loop { rec .done (some c) with state:=.exhausted }),?_,?_⟩
     ·have:=run_endLoop (P:=P) h2 (by rw [hrec];simp);rw [hrec] at this ⊢;exact this
     ·have hs:=hstop c w.heap.size _ (hIx _ _ _ h1 (Qt.put (o':=.loop { rec .done (some c) with state:=.exhausted }) h2 rfl (by omega))) (Nat.le_refl _) ((World.putObj_heap_other (by omega)).trans h3)
      cases c <;> first|exact hs.elim|skip
      ·exact wpIn_exit ⟨_,hrel u,hag,hs⟩
      ·exact wpIn_ret ⟨_,hrel u,hag,hs⟩
   |panicked c=>exact he.elim
   |outgrown=>exact he.elim
 ·-- one round
  intro i u x hx hh
  obtain⟨hi,hl,hk⟩:=hh
  have hlt:=blk_lt hl
  have hxl:=hxs x (List.mem_of_getElem? hx)
  have hln:rec .ready none = { state:=.ready,pending:=none,fn,tmps:=a.tmps,params:=ps,assign,body,defers:=w.heap.size }:=by rw [hrec]
  refine⟨rec .ready none,hl,by rw [hln];simpa using hxl,?_⟩
  have htm:(((rec .ready none).params.zip x.toArray).foldl (λtmps (t,a)=>tmps.setIfInBounds t a) (rec .ready none).tmps)=(ps.toList.zip x).foldl (λt (s,v)=>t.setIfInBounds s v) a.tmps:=by
   rw [hln]
   show (ps.zip x.toArray).foldl _ a.tmps=_
   rw [<-Array.foldl_toList];simp
  have hrel:=zE7 ha.le ps.toList x F a ha (zDO hps) hxl
  have hR:=hround i x u hx hi
  have e1:(rec .ready none).fn=fn:=by rw [hln]
  have e2:(rec .ready none).assign=assign:=by rw [hln]
  have e3:(rec .ready none).body=body:=by rw [hln]
  rw [htm,e1,e2,e3]
  have hTR:({ T with round:=true }:Tab).ok P=true:=hT
  have hround':RoundIn (fw none) 0 P (w.heap.size+1) fn ((ps.toList.zip x).foldl (λt (s,v)=>t.setIfInBounds s v) a.tmps) assign body u
    (RetP (λv w'=>∃b,v=.bool b/\((b=true/\(I (i+1) w'/\w'.heap[w.heap.size+1]? = some (.loop (rec .ready none))/\w'.heap[w.heap.size]? = some (.deferred (some [])))) \/
     (b=false/\∃c,Ix c w'/\w'.heap[w.heap.size+1]? = some (.loop (rec .done (some c)))/\w'.heap[w.heap.size]? = some (.deferred (some []))))) (λ_ _=>False)):=by
   refine roundIn_of_wpIn trivial ?_
   rw [fw_in]
   refine Code.wpIn_mono ?_ (zBA hTR assign _ _ _ hR (some (w.heap.size+1)) rfl _ hrel)
   intro e a1 u1 hq
   cases e <;> simp only [KS.lift,Exit.then] at hq ⊢
   case normal =>
    obtain⟨F1,h1,_,hE,hb⟩:=hq
    have hl1:=hE.nc _ _ hl rfl
    have hk1:=hE.nc _ _ hk rfl
    refine⟨_,run_beginRound hl1 (by rw [hln]),?_⟩
    have hlt1:=blk_lt hl1
    have hl2:(u1.putObj (w.heap.size+1) (.loop { rec .ready none with state:=.busy })).heap[w.heap.size+1]? = some (.loop { rec .ready none with state:=.busy }):=World.putObj_heap_same hlt1
    have hk2:(u1.putObj (w.heap.size+1) (.loop { rec .ready none with state:=.busy })).heap[w.heap.size]? = some (.deferred (some [])):=(World.putObj_heap_other (by omega)).trans hk1
    have hbody:=hb _ (Qt.put (o':=.loop { rec .ready none with state:=.busy }) hl1 rfl (by omega))
    refine Code.wpIn_mono ?_ (zBA hTR body _ _ _ hbody (some (w.heap.size+1)) rfl a1 h1)
    have fin:∀(jump:Option Code) (W3:World),(∃D,Fr D (u1.putObj (w.heap.size+1) (.loop { rec .ready none with state:=.busy })) W3) ->
      (Instr.endRound (w.heap.size+1) jump).run P W3=.ok (.bool jump.isNone) (W3.putObj (w.heap.size+1) (.loop (rec (if jump.isNone then .ready else .done) jump))) /\
      (Qt w.heap.size W3 (W3.putObj (w.heap.size+1) (.loop (rec (if jump.isNone then .ready else .done) jump)))) /\
      (W3.putObj (w.heap.size+1) (.loop (rec (if jump.isNone then .ready else .done) jump))).heap[w.heap.size+1]? = some (.loop (rec (if jump.isNone then .ready else .done) jump)) /\
      (W3.putObj (w.heap.size+1) (.loop (rec (if jump.isNone then .ready else .done) jump))).heap[w.heap.size]? = some (.deferred (some [])):=λjump W3 hk3=>by
     obtain⟨D,hk3⟩:=hk3
     have hl3:=hk3.nc _ _ hl2 rfl
     have:=run_endRound (P:=P) jump hl3
     refine⟨?_,Qt.put hl3 rfl (by omega),World.putObj_heap_same (blk_lt hl3),(World.putObj_heap_other (by omega)).trans (hk3.nc _ _ hk2 rfl)⟩
     rw [hrec] at this ⊢;exact this
    intro e a3 W3 hp
    cases e <;> simp only [KS.lift,roundPost] at hp ⊢
    case normal =>
     obtain⟨_,_,_,hi3,hk3⟩:=hp
     obtain⟨h1,h2,h3,h4⟩:=fin none W3 hk3
     exact⟨_,_,h1,_,rfl,.inl ⟨rfl,hI _ _ _ hi3 h2,h3,h4⟩⟩
    case exit j =>
     obtain⟨_,_,_,hi3,hk3⟩:=hp
     obtain⟨h1,h2,h3,h4⟩:=fin (some (.exit j)) W3 hk3
     exact⟨_,_,h1,_,rfl,.inr ⟨rfl,_,hIx _ _ _ hi3 h2,h3,h4⟩⟩
    case ret =>
     obtain⟨_,_,_,hi3,hk3⟩:=hp
     obtain⟨h1,h2,h3,h4⟩:=fin (some .ret) W3 hk3
     exact⟨_,_,h1,_,rfl,.inr ⟨rfl,_,hIx _ _ _ hi3 h2,h3,h4⟩⟩
    case panic c=>obtain⟨_,_,_,h⟩:=hp;exact h.elim
   case exit j=>obtain⟨_,_,_,h⟩:=hq;exact h.elim
   case ret=>obtain⟨_,_,_,h⟩:=hq;exact h.elim
   case panic c=>obtain⟨_,_,_,h⟩:=hq;exact h.elim
  exact hround'
end
end Go.W
namespace Go.W
open Go
open Enc (enc)
variable {B N i j k m n:Nat} {D:Nat -> Prop} {P:Program} {a a':Option Addr} {u u' w w':World}
class Bk (x:outParam World) (b:Nat) (cs:outParam (List Value)) (e:outParam TypeId):Prop where
 h:x.heap[b]? = some (.cells cs.toArray e (0,0))
theorem Bk.up{x:World}{b:Nat}{cs:List Value}{e:TypeId}(B:Bk x b cs e)[L:Le x w]:w.heap[b]? = some (.cells cs.toArray e (0,0)):=upb (h:=L) B.h
theorem Bk.at{x:World}{b:Nat}{cs:List Value}{e:TypeId}(B:Bk x b cs e)[L:Le x w]:At w b 0 cs:=by have:=At.blk (upb (h:=L) B.h);simpa using this
theorem Bk.lt{x:World}{b:Nat}{cs:List Value}{e:TypeId}(B:Bk x b cs e):b<x.heap.size:=blk_lt B.h
theorem Bk.fr{x:World}{b:Nat}{cs:List Value}{e:TypeId}(B:Bk x b cs e)(f:Fr D x w)(hd:¬D b):Bk w b cs e:=⟨f.blk B.h hd⟩
theorem Bk.mv{x:World}{b:Nat}{cs:List Value}{e:TypeId}(B:Bk x b cs e)[L:Le x w]:Bk w b cs e:=⟨B.up⟩
theorem Bk.qt{b:Nat}{cs:List Value}{e:TypeId}(h:Bk u b cs e)(q:Qt B u u'):Bk u' b cs e:=⟨blk_qt h.h q⟩
class Nx (w:outParam World) (w':World) (b:outParam Nat):Prop where
 b:b=w.heap.size
 s:w'.heap.size=w.heap.size+1
 e:Ext w w'
 g:∃o,w'=w.alloc o
instance Nx.stp {w w':World} {b:Nat} [n:Nx w w' b]:Stp w w':=⟨n.e⟩
section
variable {P:Program} {k:Value->World->Prop} {pn:List PanicEntry->World->Prop} {w:World}
theorem Nx.mk'(w:World)(o:Obj):Nx w (w.alloc o) w.heap.size:=⟨rfl,by simp,Ext.alloc w o,o,rfl⟩
theorem rbx{e:TypeId}{v:Value}(hk:∀b w',Nx w w' b->Bk w' b v.cells.toList e->k (.pointer (some ⟨b,0,none⟩)) w'):SemV P (Instr.box e v) k pn w:=
 SemV.of (v:=.pointer (some ⟨w.heap.size,0,none⟩)) (w':=w.alloc (.cells v.cells e)) (by rfl) (hk _ _ (Nx.mk' w _) ⟨by rw [heap_alloc_new]⟩)
theorem ral{e:TypeId}{z:Value}{sz by':Nat}[he:Elem P e z sz by'](hk:∀b w',Nx w w' b->Bk w' b z.cells.toList e->k (.pointer (some ⟨b,0,none⟩)) w'):SemV P (Instr.alloc e true (.tuple #[])) k pn w:=by
 obtain⟨i,hi,hz,_,_⟩:=info_parts he.h
 exact SemV.of (v:=.pointer (some ⟨w.heap.size,0,none⟩)) (w':=w.alloc (.cells z.cells e)) (by simp [Instr.alloc,zeroValue,typeInfo,hi,hz,newVar,newRow]) (hk _ _ (Nx.mk' w _) ⟨by rw [heap_alloc_new]⟩)
theorem rld{t:TypeId}[ht:One P t]{x:World}{b o:Nat}{cs:List Value}{e:TypeId}[B:Bk x b cs e][L:Le x w]{v:Value}(hv:nth cs o=some v)(hk:k v w):SemV P (Instr.loadAt t (.pointer (some ⟨b,o,none⟩))) k pn w:=
 rload1 (by have:=(Bk.at (w:=w) B).cell o (v:=v) (by rw [<-nth_eq];exact hv);rwa [Nat.zero_add] at this) hk
theorem rldG{t:Nat}[ht:Agg P t n]{x:World}{b o:Nat}{cs:List Value}{e:TypeId}[B:Bk x b cs e][L:Le x w]{ds:List Value}(hv:(cs.drop o).take n=ds)(hl:ds.length=n)(hk:k (.agg ds.toArray) w):SemV P (Instr.loadAt t (.pointer (some ⟨b,o,none⟩))) k pn w:=
 rloadA (by have:=(Bk.at (w:=w) B).sub o n;rw [hv,Nat.zero_add] at this;exact this) hl hk
theorem rres{t:TypeId}[ht:One P t]{x:World}{b o:Nat}{cs:List Value}{e:TypeId}[B:Bk x b cs e][L:Le x w]{v:Value}{k:Value->Prop}(hv:nth cs o=some v)(hk:k v):LoadR P t ⟨b,o,none⟩ k w:=
 rres1 (by have:=(Bk.at (w:=w) B).cell o (v:=v) (by rw [<-nth_eq];exact hv);rwa [Nat.zero_add] at this) hk
theorem rresG{t:Nat}[ht:Agg P t n]{x:World}{b:Nat}{cs:List Value}{e:TypeId}[B:Bk x b cs e][L:Le x w]{k:Value->Prop}(hl:cs.length=n)(hk:k (.agg cs.toArray)):LoadR P t ⟨b,0,none⟩ k w:=
 rresA (Bk.at B) hl hk
theorem rsto{t:TypeId}[ht:Size P t n]{x:World}{b off:Nat}{cs:List Value}{e:TypeId}[B:Bk x b cs e][L:Le x w]{v:Value}{vs:List Value}(hv:v.cells.toList=vs)(hn:vs.length=n)(hfit:Nat.ble (off+n) cs.length=true)(h1:∀u∈vs,u.oneCell'=true)
  (hk:∀w',Bk w' b (splice cs off vs) e->Fr (λi=>i=b) w w'->w'.heap.size=w.heap.size->k undef w'):SemU P (Instr.storeAt t (.pointer (some ⟨b,off,none⟩)) v) k pn w:=
 rst (Bk.up B) hv hn (by have:=Nat.le_of_ble_eq_true hfit;simpa using this) h1 λw' a f s=>hk w' ⟨by simpa using a⟩ f s
theorem Fr.one{w:World}{b:Nat}(f:Fr (λi=>i=b) w w')(h:u.heap.size<=b):Stw u w w':=f.stw λ_ hi=>hi ▸ h
theorem Nx.lo{w:World}{b:Nat}(n:Nx w w' b)[L:Le u w]:u.heap.size<=b:=by rw [n.b];exact L.e.size
theorem zLr(op:BinOp)(t:TypeId)(x y:Operand)(a b:Option Addr)(n m c d:Nat)(w:World):(eqGuard op t x y (.slice a n c) (.slice b m d)).run P w=.ok () w:=by
 cases op <;> rfl
theorem zGZ(d:Nat){t e:TypeId}(ht:P.underlying t=some (.slice e))(a:Option Addr)(n c:Nat)(w:World):(Op.equalIn (d+1) t (.slice a n c) (.slice none 0 0)).run P w=.ok a.isNone w:=by
 cases a <;> simp [Op.equalIn,run_underlying ht]
theorem rsnil{t e:TypeId}[ht:SlT P t e]{x y:Operand}{c:Nat}(h1:a=none->k (.bool true) w)(h2:a≠none->k (.bool false) w):SemV P (do eqGuard .eql t x y (.slice a n c) (.slice none 0 0);binOp .eql t (.slice a n c) (.slice none 0 0)) k pn w:=by
 refine zFt (p:=a=none) a.isNone ?_ (by cases a <;> simp) h1 h2
 rw [Sem.run_bind,zLr,Result.andThen_ok]
 simp only [binOp]
 rw [Sem.run_bind,show (Op.equal t (.slice a n c) (.slice none 0 0)).run P w=.ok a.isNone w from zGZ 9999 ht.h a n c w];rfl
end
end Go.W
namespace Go.W
open Go
variable {B N i j k m n:Nat} {D:Nat -> Prop} {P:Program} {a a':Option Addr} {u u' w w':World}
section
variable {P:Program}
theorem leave1{rs:List ResultVar}{F:Nat->Value}{D:Nat}{args:Array Value}{R:Value->World->Prop}{pn:List PanicEntry->World->Prop}(hD:u.heap[D]? = some (.deferred (some [])))
  (h:∀u',(∀B,B<=D->Qt B u u')->resS P rs [] F R u'):LeaveS P rs F [{ target:=.collected D,args }] .returning R pn u:=
 zGN (by intro h;cases h) hD (leave_ret (h _ λB hB=>Qt.put hD rfl hB))
end
def selN (q:Nat->Bool) (n:Nat):List Nat:=(List.range n).filter q
theorem zIb(q:Nat->Bool)(n:Nat):selN q (n+1)=if q n then selN q n++[n] else selN q n:=by
 unfold selN;rw [List.range_succ,List.filter_append];cases h:q n <;> simp [h]
theorem zBF{q:Nat->Bool}(hk:k<n)(hq:q k=true):(selN q n)[(selN q k).length]? = some k:=by
 induction n with
 |zero=>omega
 |succ n ih =>
  rw [zIb]
  rcases Nat.lt_or_ge k n with h|h
  ·have:=ih h
   split
   ·rw [List.getElem?_append_left (List.getElem?_eq_some_iff.1 this).1];exact this
   ·exact this
  ·obtain rfl:k=n:=by omega
   rw [if_pos hq];simp
theorem zGo{q:Nat->Bool}:k∈selN q n↔k<n/\q k=true:=by simp [selN]
theorem zHs(q:Nat->Bool)(n:Nat):(selN q n).length<=n:=by unfold selN;exact Nat.le_trans (List.length_filter_le _ _) (by simp)
end Go.W
namespace Go.W
open Go
variable {B N i j k m n:Nat} {D:Nat -> Prop} {P:Program} {a a':Option Addr} {u u' w w':World}
section
variable {P:Program} {T:Tab} {n:Nat}
theorem cnt(hT:T.ok P=true)(m:Nat)(keep:List Nat)(s:Nat)(N:Nat)(I:Nat->World->Prop){body:Code}{Q:KS}{F:Nat->Value}
  (hok:okB m keep [s] body=true)(hs:F s=.int .i64 0)(h0:I 0 w)
  (hr:∀(k:Nat) g w,k<=N->I k w->S P T n body { Q with nrm:=λF' w'=>F' s=.int .i64 ((k:Int)+1)/\k<N/\I (k+1) w' } (hdF m keep [(s,.int .i64 k)] g F) w):DeepS P T n (.loop body) Q F w:=by
 refine loop1 hT m keep s (λv w=>∃k:Nat,k<=N/\v=.int .i64 k/\I k w) (λv _=>N - (Go.RowKit.intOf v).toNat) hok ⟨0,by omega,hs,h0⟩ ?_
 rintro v g w ⟨k,hk,rfl,hi⟩
 refine S_mono _ _ _ _ _ (hr k g w hk hi) ?_ (λ_ _ _ _ h=>h) (λ_ _ _ h=>h) (λ_ _ _ _ h=>h)
 intro G w' _ h
 obtain⟨h1,h2,h3⟩:=h
 refine⟨⟨k+1,h2,h1,h3⟩,?_⟩
 show N - (Go.RowKit.intOf (G s)).toNat<N - _
 rw [h1]
 show N - ((k:Int)+1).toNat<N - ((k:Int)).toNat
 omega
theorem cnt1(hT:T.ok P=true)(m:Nat)(keep:List Nat)(s1 s:Nat)(N:Nat)(I:Nat->Value->World->Prop){body:Code}{Q:KS}{F:Nat->Value}
  (hok:okB m keep [s1,s] body=true)(hs:F s=.int .i64 0)(h0:I 0 (F s1) w)
  (hr:∀(k:Nat) v1 g w,k<=N->I k v1 w->S P T n body { Q with nrm:=λF' w'=>F' s=.int .i64 ((k:Int)+1)/\k<N/\I (k+1) (F' s1) w' } (hdF m keep [(s1,v1),(s,.int .i64 k)] g F) w):DeepS P T n (.loop body) Q F w:=by
 refine loop2 hT m keep s1 s (λv1 v w=>∃k:Nat,k<=N/\v=.int .i64 k/\I k v1 w) (λ_ v _=>N - (Go.RowKit.intOf v).toNat) hok ⟨0,by omega,hs,h0⟩ ?_
 rintro v1 v g w ⟨k,hk,rfl,hi⟩
 refine S_mono _ _ _ _ _ (hr k v1 g w hk hi) ?_ (λ_ _ _ _ h=>h) (λ_ _ _ h=>h) (λ_ _ _ _ h=>h)
 intro G w' _ h
 obtain⟨h1,h2,h3⟩:=h
 refine⟨⟨k+1,h2,h1,h3⟩,?_⟩
 show N - (Go.RowKit.intOf (G s)).toNat<N - _
 rw [h1]
 show N - ((k:Int)+1).toNat<N - ((k:Int)).toNat
 omega
theorem cnt2(hT:T.ok P=true)(m:Nat)(keep:List Nat)(s1 s2 s:Nat)(N:Nat)(I:Nat->Value->Value->World->Prop){body:Code}{Q:KS}{F:Nat->Value}
  (hok:okB m keep [s1,s2,s] body=true)(hs:F s=.int .i64 0)(h0:I 0 (F s1) (F s2) w)
  (hr:∀(k:Nat) v1 v2 g w,k<=N->I k v1 v2 w->S P T n body { Q with nrm:=λF' w'=>F' s=.int .i64 ((k:Int)+1)/\k<N/\I (k+1) (F' s1) (F' s2) w' } (hdF m keep [(s1,v1),(s2,v2),(s,.int .i64 k)] g F) w):DeepS P T n (.loop body) Q F w:=by
 refine loop3 hT m keep s1 s2 s (λv1 v2 v w=>∃k:Nat,k<=N/\v=.int .i64 k/\I k v1 v2 w) (λ_ _ v _=>N - (Go.RowKit.intOf v).toNat) hok ⟨0,by omega,hs,h0⟩ ?_
 rintro v1 v2 v g w ⟨k,hk,rfl,hi⟩
 refine S_mono _ _ _ _ _ (hr k v1 v2 g w hk hi) ?_ (λ_ _ _ _ h=>h) (λ_ _ _ h=>h) (λ_ _ _ _ h=>h)
 intro G w' _ h
 obtain⟨h1,h2,h3⟩:=h
 refine⟨⟨k+1,h2,h1,h3⟩,?_⟩
 show N - (Go.RowKit.intOf (G s)).toNat<N - _
 rw [h1]
 show N - ((k:Int)+1).toNat<N - ((k:Int)).toNat
 omega
end
theorem zAa{α:Type}{l:List α}(h:k<l.length):l.take (k+1)=l.take k++[l[k]]:=List.take_succ_eq_append_getElem h
end Go.W
namespace Go.W
open Go
variable {B N i j k m n:Nat} {D:Nat -> Prop} {P:Program} {a a':Option Addr} {u u' w w':World}
section
variable {P:Program} {w:World}
theorem tld{t:TypeId}[ht:One P t]{x:World}{b o:Nat}{cs:List Value}{e:TypeId}[B:Bk x b cs e][L:Le x w]{k:Value->Prop}{v:Value}(hv:nth cs o=some v)(hd:¬D b)(hk:k v):TakeS P (Instr.loadAt t (.pointer (some ⟨b,o,none⟩))) D k w:=
 tload1 (by have:=(Bk.at (w:=w) B).cell o (v:=v) (by rw [<-nth_eq];exact hv);rwa [Nat.zero_add] at this) hd hk
theorem tldG{t:Nat}[ht:Agg P t n]{x:World}{b o:Nat}{cs:List Value}{e:TypeId}[B:Bk x b cs e][L:Le x w]{k:Value->Prop}{ds:List Value}(hv:(cs.drop o).take n=ds)(hl:ds.length=n)(hd:¬D b)(hk:k (.agg ds.toArray)):TakeS P (Instr.loadAt t (.pointer (some ⟨b,o,none⟩))) D k w:=
 tloadA (by have:=(Bk.at (w:=w) B).sub o n;rw [hv,Nat.zero_add] at this;exact this) hl hd hk
end
section
variable {α:Type} [Enc α]
theorem Own.shape{e:TypeId}{v:Value}{l:List α}(h:Own B e w v l):∃a c,v=.slice a l.length c:=h.sl.shape
theorem Own.frc{e e':TypeId}{v:Value}{l:List α}{b:Nat}{cs:List Value}(h:Own B e w v l)(f:Fr (λi=>i=b) w w')(k:Bk w b cs e')(hne:e≠e'):Own B e w' v l:=by
 rcases h with h|h
 ·exact .inl h
 ·refine .inr ⟨h.1,?_⟩
  rcases h.2 with hn|⟨g,cap,cur,rfl,hb,hg,rest⟩
  ·exact .inl hn
  ·refine .inr ⟨g,cap,cur,rfl,hb,f.blk hg ?_,rest⟩
   rintro rfl
   have:=k.h;rw [hg] at this;cases this;exact hne rfl
theorem Bk.fro{e e':TypeId}{v:Value}{l:List α}{b:Nat}{cs:List Value}(k:Bk w b cs e')(h:Own B e w v l)(f:Fr (ownD B v) w w')(hne:e≠e'):Bk w' b cs e':=by
 refine k.fr f λhd=>?_
 rcases h with ⟨_,a,rfl⟩|h
 ·exact hd.2.2 a rfl
 ·rcases h.2 with ⟨rfl,_⟩|⟨g,cap,cur,rfl,_,hg,_⟩
  ·cases hd.2.1
  ·have h2:=hd.2.1
   simp only [Value.blk] at h2;cases h2
   have:=k.h;rw [hg] at this;cases this;exact hne rfl
theorem Own.fro{β:Type}[Enc β]{B':Nat}{e e':TypeId}{v v':Value}{l:List α}{l':List β}(h:Own B e w v l)(k:Own B' e' w v' l')(f:Fr (ownD B' v') w w')(hne:e≠e'):Own B e w' v l:=by
 rcases h with h|h
 ·exact .inl h
 ·refine .inr ⟨h.1,?_⟩
  rcases h.2 with hn|⟨g,cap,cur,rfl,hb,hg,rest⟩
  ·exact .inl hn
  ·refine .inr ⟨g,cap,cur,rfl,hb,f.blk hg λhd=>?_,rest⟩
   rcases k with ⟨_,a,rfl⟩|k
   ·exact hd.2.2 a rfl
   ·rcases k.2 with ⟨rfl,_⟩|⟨g',cap',cur',rfl,_,hg',_⟩
    ·cases hd.2.1
    ·have h2:=hd.2.1
     simp only [Value.blk] at h2;cases h2
     rw [hg] at hg';cases hg';exact hne rfl
end
theorem zOq{q:Nat->Bool}(h:(selN q n)[i]? = some k):k<n/\q k=true/\i=(selN q k).length:=by
 have hm:=List.mem_of_getElem? h
 obtain⟨hk,hq⟩:=zGo.1 hm
 refine⟨hk,hq,?_⟩
 have h1:=zBF hk hq
 have hnd:(selN q n).Nodup:=(List.nodup_range).filter _
 exact(List.getElem?_inj (List.getElem?_eq_some_iff.1 h).1 hnd).1 (by rw [h,h1])
theorem zOr{q:Nat->Bool}(hj:j<k)(hq:q j=true):(selN q j).length<(selN q k).length:=(List.getElem?_eq_some_iff.1 (zBF hj hq)).1
end Go.W
namespace Go.W
open Go
open Enc (enc)
variable {B N i j k m n:Nat} {D:Nat -> Prop} {P:Program} {a a':Option Addr} {u u' w w':World}
section
variable {P:Program} {k:Value->World->Prop} {pn:List PanicEntry->World->Prop} {w:World}
theorem rarE{x y:Int}(e:x=y)(h:-9223372036854775808<=y/\y<=9223372036854775807)(hk:k (.int .i64 y) w):ArS .i64 x k w:=by
 subst e;exact rar h hk
class ArrT (P:Program) (t:TypeId) (n:outParam Nat) (e:outParam TypeId):Prop where
 h:P.underlying t=some (.array n e)
theorem zNh{t e:TypeId}{z:Value}{sz by':Nat}(ht:ArrT P t N e)(he:Elem P e z sz by'){b o:Nat}{i:Int}(h0:0<=i)(h1:i<N)(w:World):
  (Instr.indexAt t (.pointer (some ⟨b,o,none⟩)) (.int .i64 i)).run P w=.ok (.pointer (some ⟨b,o+i.toNat*sz,none⟩)) w:=by
 obtain⟨j,hj,_,hs,_⟩:=info_parts he.h
 simp [Instr.indexAt,asIntOf,underlying,ht.h,sizeOf,typeInfo,hj,hs,h0,h1,zAv,Instr.sureAddr]
theorem rstK{t:TypeId}[ht:Size P t n]{x:World}{b off:Nat}{cs:List Value}{e:TypeId}[B:Bk x b cs e][L:Le x w]{v:Value}{vs:List Value}(hv:v.cells.toList=vs)(hn:vs.length=n)(hfit:off+n<=cs.length)(h1:∀u∈vs,u.oneCell'=true)
  (hk:∀w',Bk w' b (splice cs off vs) e->Fr (λi=>i=b) w w'->w'.heap.size=w.heap.size->k undef w'):SemU P (Instr.storeAt t (.pointer (some ⟨b,off,none⟩)) v) k pn w:=
 rst (Bk.up B) hv hn (by simpa using hfit) h1 λw' a f s=>hk w' ⟨by simpa using a⟩ f s
theorem rldK{t:TypeId}[ht:One P t]{x:World}{b o:Nat}{cs:List Value}{e:TypeId}[B:Bk x b cs e][L:Le x w]{v:Value}(hv:cs[o]? = some v)(hk:k v w):SemV P (Instr.loadAt t (.pointer (some ⟨b,o,none⟩))) k pn w:=
 rld (B:=B) (L:=L) (by rw [nth_eq];exact hv) hk
theorem splice1(cs:List Value)(i:Nat)(v:Value)(h:i<cs.length):splice cs i [v]=cs.set i v:=by
 unfold splice;rw [List.set_eq_take_append_cons_drop,if_pos h];simp
theorem Nx.lt{w:World}{b:Nat}(n:Nx w w' b):b<w'.heap.size:=by have:=n.b;have:=n.s;omega
end
section
variable {P:Program} {T:Tab} {n:Nat}
end
section
variable {α:Type}
theorem zOt{l:List α}:((l.drop (Option.getD none 0)).take ((some j).getD l.length - Option.getD none 0))=l.take j:=by simp
theorem zK8{l:List α}:((l.drop ((some j).getD 0)).take (Option.getD none l.length - (some j).getD 0))=l.drop j:=by
 simp only [Option.getD_some,Option.getD_none];exact List.take_of_length_le (by simp)
end
section
variable {α:Type} [Enc α] {P:Program} {k:Value->World->Prop} {pn:List PanicEntry->World->Prop} {w u:World}
theorem rslB{t e:TypeId}{z:Value}{by':Nat}[ht:SlT P t e][he:Elem P e z (Enc.sz α) by']{c:Nat}{l:List α}(lo hi:Option Nat)(h:SlF u (.slice a n c) l)(h1:lo.getD 0<=hi.getD n)(h2:hi.getD n<=n)
  (hk:∀a' c',SlF u (.slice a' (hi.getD n - lo.getD 0) c') ((l.drop (lo.getD 0)).take (hi.getD n - lo.getD 0))->k (.slice a' (hi.getD n - lo.getD 0) c') w):SemV P (Instr.sliceAt t (.slice a n c) (loV lo) (loV hi) none) k pn w:=by
 have hnc:n<=c:=by obtain⟨a',c',hv,hc,_⟩:=h;cases hv;exact hc
 exact SemV.of (zBk ht he lo hi h1 (by omega) w) (hk _ _ (h.part _ _ h1 h2))
theorem tslB{t e:TypeId}{z:Value}{by':Nat}[ht:SlT P t e][he:Elem P e z (Enc.sz α) by']{k:Value->Prop}{c:Nat}{l:List α}(lo hi:Option Nat)(h:SlF u (.slice a n c) l)(h1:lo.getD 0<=hi.getD n)(h2:hi.getD n<=n)
  (hk:∀a' c',SlF u (.slice a' (hi.getD n - lo.getD 0) c') ((l.drop (lo.getD 0)).take (hi.getD n - lo.getD 0))->k (.slice a' (hi.getD n - lo.getD 0) c')):TakeS P (Instr.sliceAt t (.slice a n c) (loV lo) (loV hi) none) D k w:=by
 have hnc:n<=c:=by obtain⟨a',c',hv,hc,_⟩:=h;cases hv;exact hc
 rw [zAg]
 exact⟨_,λw' _=>zBk ht he lo hi h1 (by omega) w',hk _ _ (h.part _ _ h1 h2)⟩
end
theorem one_sv(s:SV):s.v.oneCell'=true:=rfl
def svOf:Value->SV
 |.slice a n c=>⟨a,n,c⟩
 |_=>⟨none,0,0⟩
theorem svOf_v{α:Type}[Enc α]{v:Value}{l:List α}(h:SlF w v l):(svOf v).v=v:=by obtain⟨a,c,rfl⟩:=h.shape;rfl
end Go.W
set_option linter.unusedSimpArgs false
namespace Go.W
open Go
variable {B N i j k m n:Nat} {D:Nat -> Prop} {P:Program} {a a':Option Addr} {u u' w w':World}
inductive OT where
 |nil:OT
 |one:Nat->OT->OT
 |two:Nat->OT->Nat->OT->OT
 |lone:Nat->OT->OT
 |duo:Nat->OT->Nat->OT->OT
 |tri:Nat->OT->Nat->OT->Nat->OT->OT
def OT.deep:OT->Nat->Bool
 |.nil,m=>Nat.beq m 0
 |.one _ t,m=>match m with|0=>false|m+1=>t.deep m
 |.lone _ t,m=>match m with|0=>false|m+1=>t.deep m
 |.two _ t _ t',m=>match m with|0=>false|m+1=>t.deep m && t'.deep m
 |.duo _ t _ t',m=>match m with|0=>false|m+1=>t.deep m && t'.deep m
 |.tri _ t _ t' _ t'',m=>match m with|0=>false|m+1=>t.deep m && t'.deep m && t''.deep m
def drawStepG (tk : Oper -> Bool) (P : Program) (T : Tab) (n : Nat) (D : Nat -> Prop) (all : List Oper) (i : Nat) (ih : (Nat -> Value) -> ((Nat -> Value) -> World -> Prop) -> (List PanicEntry -> World -> Prop) -> World -> Prop)
    (F : Nat -> Value) (k : (Nat -> Value) -> World -> Prop) (pn : List PanicEntry -> World -> Prop) (w : World) : Prop :=
  match nth all i with
    | none => False
    | some o => match o.guard with
      | none => bif tk o then takeS P T D o F (λv => putS n F o.dst v λF' => ih F' k pn w) w
          else opS P T o F (λv w' => Fr D w w' /\ putS n F o.dst v λF' => ih F' k pn w') pn w
      | some (j, want) => match nth all j with
        | some g => match g.dst with
          | some d => match F d with
            | .bool b => match Nat.blt d n with
              | true => match want with
                | true => condS b
                    (bif tk o then takeS P T D o (upd F d (.bool true)) (λv => putS n (upd F d (.bool true)) o.dst v λF' => ih F' k pn w) w
                      else opS P T o (upd F d (.bool true)) (λv w' => Fr D w w' /\ putS n (upd F d (.bool true)) o.dst v λF' => ih F' k pn w') pn w)
                    (putS n (upd F d (.bool false)) o.dst undef λF' => ih F' k pn w)
                | false => condS b
                    (putS n (upd F d (.bool true)) o.dst undef λF' => ih F' k pn w)
                    (bif tk o then takeS P T D o (upd F d (.bool false)) (λv => putS n (upd F d (.bool false)) o.dst v λF' => ih F' k pn w) w
                      else opS P T o (upd F d (.bool false)) (λv w' => Fr D w w' /\ putS n (upd F d (.bool false)) o.dst v λF' => ih F' k pn w') pn w)
              | false => False
            | .tuple _ => putS n F o.dst undef λF' => ih F' k pn w
            | _ => False
          | none => False
        | none => False
def drawT (P:Program) (T:Tab) (n:Nat) (D:Nat->Prop) (all:List Oper) (t:OT):(Nat->Value)->((Nat->Value)->World->Prop)->(List PanicEntry->World->Prop)->World->Prop:=
 OT.rec (motive:=λ_=>(Nat->Value)->((Nat->Value)->World->Prop)->(List PanicEntry->World->Prop)->World->Prop) (λF k _ w=>k F w) (λi _ ih=>drawStep P T n D all i ih)
  (λi _ j _ ih jh F k pn w=>drawStep P T n D all i ih F k pn w/\drawStep P T n D all j jh F k pn w) (λi _ ih=>drawStepG (λ_=>false) P T n D all i ih)
  (λi _ j _ ih jh F k pn w=>drawStepG (λ_=>false) P T n D all i ih F k pn w/\drawStepG (λ_=>false) P T n D all j jh F k pn w)
  (λi _ j _ q _ ih jh qh F k pn w=>drawStepG (λ_=>false) P T n D all i ih F k pn w/\drawStepG (λ_=>false) P T n D all j jh F k pn w/\drawStepG (λ_=>false) P T n D all q qh F k pn w) t
def plainB (ops:Array Oper) (i:Nat):Bool:=match ops[i]? with|none=>false|some o=>!takeK o
def ordT (ops:Array Oper):OT->Array Bool->Bool
 |.nil,listed=>(Region.ready .any ops listed).isEmpty
 |.one i t,listed=>match ops[i]? with
  |none=>false
  |some o=>(bif takeK o then Region.free .any ops listed i && (Region.ready .any ops listed).contains i else Region.ready .any ops listed==[i]) && ordT ops t (listed.setIfInBounds i true)
 |.lone i t,listed=>(Region.ready .any ops listed==[i]) && ordT ops t (listed.setIfInBounds i true)
 |.duo i t j t',listed=>(Region.ready .any ops listed==[i,j]) && ordT ops t (listed.setIfInBounds i true) && ordT ops t' (listed.setIfInBounds j true)
 |.tri i t j t' q t'',listed=>(Region.ready .any ops listed==[i,j,q]) && ordT ops t (listed.setIfInBounds i true) && ordT ops t' (listed.setIfInBounds j true) && ordT ops t'' (listed.setIfInBounds q true)
 |.two i t j t',listed=>(Region.ready .any ops listed==[i,j]) && plainB ops i && plainB ops j && !Nat.beq i j && ordT ops t (listed.setIfInBounds i true) && ordT ops t' (listed.setIfInBounds j true)
def ordTOK (ops:Array Oper) (t:OT):Bool:=Region.noSelect ops && noDefs ops && t.deep ops.size && ordT ops t (Array.replicate ops.size false)
section
variable {P:Program} {T:Tab} {n:Nat}
theorem zG3{tk : Oper -> Bool}{ops : Array Oper}{ih : (Nat -> Value) -> ((Nat -> Value) -> World -> Prop) -> (List PanicEntry -> World -> Prop) -> World -> Prop}{F : Nat -> Value}{k : (Nat -> Value) -> World -> Prop}{pn : List PanicEntry -> World -> Prop}{a : Act}(ha : Rel n F a)
    (h : drawStepG tk P T n D ops.toList i ih F k pn w) : ∃ o, ops[i]? = some o /\
      ((Region.wanted o (yielded ops a.tmps) = true /\ (bif tk o then takeS P T D o F (λv => putS n F o.dst v λF' => ih F' k pn w) w else opS P T o F (λv w' => Fr D w w' /\ putS n F o.dst v λF' => ih F' k pn w') pn w)) \/
       (Region.wanted o (yielded ops a.tmps) = false /\ putS n F o.dst undef λF' => ih F' k pn w)) := by
  unfold drawStepG at h
  rw [nth_eq] at h
  split at h
  · exact h.elim
  rename_i o hoi
  have hi : ops[i]? = some o := by simpa using hoi
  refine ⟨o, hi, ?_⟩
  split at h
  · rename_i hg
    exact .inl ⟨by simp [Region.wanted, hg], h⟩
  rename_i j want hg
  rw [nth_eq] at h
  split at h
  case h_2 => exact h.elim
  case h_1 g hgj =>
  split at h
  case h_2 => exact h.elim
  case h_1 d hd =>
  have hy : d < n -> yielded ops a.tmps j = match F d with | .bool b => some b | _ => none := by
    intro hdn
    have hgj' : ops[j]? = some g := by simpa using hgj
    have := ha.get d (Nat.ne_of_lt (Nat.lt_of_lt_of_le hdn ha.le))
    have hs := ha.size
    simp only [yielded, hgj', Option.bind_some, hd]
    have e : a.tmps[d]? = some (F d) := by
      rw [<- this, Array.getD_eq_getD_getElem?]
      rw [Array.getElem?_eq_getElem (by rw [hs]; exact hdn)]; rfl
    rw [e]
    cases F d <;> simp
  split at h
  · rename_i b hb
    have hF : upd F d (.bool b) = F := by rw [<- hb]; exact zEk F d
    split at h
    case h_2 => exact h.elim
    case h_1 hdn =>
    have hdn' : d < n := by simpa [Nat.blt_eq] using hdn
    have hy := hy hdn'
    simp only [hb] at hy
    cases want <;> cases b <;> simp only [condS, hF] at h <;> first
      | exact .inl ⟨by simp [Region.wanted, hg, hy], h⟩
      | exact .inr ⟨by simp [Region.wanted, hg, hy], h⟩
  · rename_i vs hb
    have hy : yielded ops a.tmps j = none := by
      by_cases hdn : d < n
      · rw [hy hdn]; simp only [hb]
      · have hgj' : ops[j]? = some g := by simpa using hgj
        have e : a.tmps[d]? = none := Array.getElem?_eq_none (by rw [ha.size]; exact Nat.le_of_not_lt hdn)
        simp only [yielded, hgj', Option.bind_some, hd, e]
    exact .inr ⟨by simp [Region.wanted, hg, hy], h⟩
  · exact h.elim
theorem zHB{ws:Nat->Bool}{ops:Array Oper}(hws:∀t,wrL ops.toList t=true->ws t=true){o:Oper}(hi:ops[i]? = some o)(t:Nat)(ht:isD o.dst t=true):ws t=true:=by
 refine hws t ?_
 have hm:o∈ops.toList:=List.mem_of_getElem? (i:=i) (by simpa using hi)
 clear hi
 generalize ops.toList=l at hm
 induction l with
 |nil=>cases hm
 |cons x r ihl =>
  simp only [wrL,Bool.or_eq_true]
  rcases List.mem_cons.1 hm with rfl|hm
  ·exact .inl (by unfold wrO;rw [ht];rfl)
  ·exact .inr (ihl hm)
theorem zHI(hT : T.ok P = true){r : Option Nat}(D : Nat -> Prop)(ops : Array Oper)(F0 : Nat -> Value)(ws : Nat -> Bool)(hws : ∀ t, wrL ops.toList t = true -> ws t = true)(k : (Nat -> Value) -> World -> Prop)(pn : List PanicEntry -> World -> Prop)(hs : Region.noSelect ops = true)(hnd : noDefs ops = true) :
    ∀ (t : OT) (m : Nat) (listed : Array Bool) (F : Nat -> Value) (w : World) (a : Act), t.deep m = true -> Rel n F a -> agree ws F0 F -> ordT ops t listed = true -> drawT P T n D ops.toList t F k pn w ->
      AnyH P r .any ops (LQ n F0 ws k (λ_ => pn)) (Fr D w) m listed a w := by
  have oper : ∀ (tk : Oper -> Bool) (i : Nat) (t : OT) (m : Nat) (listed : Array Bool) (F : Nat -> Value) (w : World) (a : Act), (∀ o, ops[i]? = some o -> tk o = false) -> Rel n F a -> agree ws F0 F ->
      (∀ (F : Nat -> Value) (w : World) (a : Act), Rel n F a -> agree ws F0 F -> drawT P T n D ops.toList t F k pn w -> AnyH P r .any ops (LQ n F0 ws k (λ_ => pn)) (Fr D w) m (listed.setIfInBounds i true) a w) ->
      drawStepG tk P T n D ops.toList i (drawT P T n D ops.toList t) F k pn w ->
      wpOpIn (fw r) 0 P ops (LQ n F0 ws k (λ_ => pn)) i (λa' w' => Fr D w w' /\ AnyH P r .any ops (LQ n F0 ws k (λ_ => pn)) (Fr D w) m (listed.setIfInBounds i true) a' w') a w := by
    intro tk i t m listed F w a hp ha h0 ih h
    obtain ⟨o, hi, hh⟩ := zG3 ha h
    have hk : tk o = false := hp o hi
    have step : ∀ {v : Value} {w' : World}, putS n F o.dst v (λF' => drawT P T n D ops.toList t F' k pn w') ->
        AnyH P r .any ops (LQ n F0 ws k (λ_ => pn)) (Fr D w') m (listed.setIfInBounds i true) (a.put o.dst v) w' := by
      intro v w' hp
      obtain ⟨F', h1, h2, h3⟩ := ha.put hp
      exact ih F' w' _ h1 (λt ht => by
        rw [h2 t (by cases hd : isD o.dst t; rfl; have := zHB hws hi t hd; rw [ht] at this; cases this), h0 t ht]) h3
    unfold wpOpIn
    simp only [hi]
    rcases hh with ⟨hw, hh⟩ | ⟨hw, hh⟩
    · simp only [hk, cond_false] at hh
      simp only [hw, if_true]
      refine opS_wp hT hh ha (λv w' hv => ?_) (λc w' hc => ⟨F, ha, h0, hc⟩)
      exact ⟨hv.1, zDg (λu hu => hv.1.trans hu) _ _ _ _ (step hv.2)⟩
    · simp only [hw]
      exact ⟨λ_ _ => trivial, Fr.refl D w, step hh⟩
  intro t
  induction t with
  | nil =>
    intro m listed F w a hm ha h0 ho h
    obtain rfl := Nat.eq_of_beq_eq_true hm
    exact ⟨by simpa [ordT] using ho, F, ha, h0, h⟩
  | one i t ih =>
    intro m listed F w a hm ha h0 ho h
    cases m with
    | zero => cases hm
    | succ m =>
    have hm : t.deep m = true := hm
    have h : drawStepG takeK P T n D ops.toList i (drawT P T n D ops.toList t) F k pn w := h
    obtain ⟨o, hi, hh⟩ := zG3 ha h
    simp only [ordT, hi, Bool.and_eq_true] at ho
    cases hk : takeK o with
    | false =>
      simp only [hk, cond_false] at ho
      have hr : Region.ready .any ops listed = [i] := by simpa using ho.1
      refine zBv hr (by simp) (λj hj => ?_)
      obtain rfl : j = i := by simpa using hj
      exact oper takeK j t m listed F w a (λo' ho' => by rw [hi] at ho'; cases ho'; exact hk) ha h0 (λF w a ha h0 h => ih m _ F w a hm ha h0 ho.2 h) h
    | true =>
      simp only [hk, cond_true] at ho hh
      rw [Bool.and_eq_true] at ho
      have step : ∀ {v : Value}, putS n F o.dst v (λF' => drawT P T n D ops.toList t F' k pn w) ->
          AnyH P r .any ops (LQ n F0 ws k (λ_ => pn)) (Fr D w) m (listed.setIfInBounds i true) (a.put o.dst v) w := by
        intro v hp
        obtain ⟨F', h1, h2, h3⟩ := ha.put hp
        exact ih m _ F' w _ hm h1 (λt ht => by
          rw [h2 t (by cases hd : isD o.dst t; rfl; have := zHB hws hi t hd; rw [ht] at this; cases this), h0 t ht]) ho.2 h3
      have hpan : ∀ c (a : Act) (w : World) (v : Value), LQ n F0 ws k (λ_ => pn) (.panic c) (a.put o.dst v) w -> LQ n F0 ws k (λ_ => pn) (.panic c) a w := by
        intro c a w v hq
        simp only [LQ] at hq ⊢
        obtain ⟨F', h1, h2, h3⟩ := hq
        have hsz : (a.put o.dst v).tmps.size = a.tmps.size := by cases hd : o.dst <;> simp [Act.put]
        have hdf : (a.put o.dst v).defers = a.defers := by cases hd : o.dst <;> simp [Act.put]
        refine ⟨λt => bif Nat.beq t 4294967296 then F' 4294967296 else a.tmps.getD t undef, ⟨by rw [<- hsz]; exact h1.size, h1.le, by rw [<- hdf]; exact h1.defers, λt ht => ?_⟩, λt ht => ?_, h3⟩
        · cases hq : Nat.beq t 4294967296 with
          | false => simp only [hq, cond_false]
          | true => exact absurd (Nat.eq_of_beq_eq_true hq) ht
        · cases hq : Nat.beq t 4294967296 with
          | true => simp only [hq, cond_true]; rw [<- Nat.eq_of_beq_eq_true hq]; exact h2 t ht
          | false =>
            simp only [hq, cond_false]
            rw [<- h2 t ht, <- h1.get t (λe => by subst e; simp at hq)]
            cases hd : o.dst with
            | none => rfl
            | some d =>
              have hne : d ≠ t := by
                rintro rfl
                have := zHB hws hi d (by simp [isD, hd])
                rw [ht] at this; cases this
              simp [Act.put, Array.getD_eq_getD_getElem?, Array.getElem?_setIfInBounds, hne]
      rcases hh with ⟨hw, hh⟩ | ⟨hw, hh⟩
      · obtain ⟨v, h1, h2⟩ := zIi hT hh
        refine zCY hnd (i := i) (oi := o) (v := v) hi hs ho.1.1 ho.1.2 (λc a w => hpan c a w v) (.inl ⟨hw, λw' hw' => ?_⟩) (Fr.refl D w) (step h2)
        rw [ha.eval]; exact h1 w' hw'
      · exact zCY hnd (i := i) (oi := o) (v := undef) hi hs ho.1.1 ho.1.2 (λc a w => hpan c a w undef) (.inr ⟨hw, rfl⟩) (Fr.refl D w) (step hh)
  | two i t j t' ih jh =>
    intro m listed F w a hm ha h0 ho h
    cases m with
    | zero => cases hm
    | succ m =>
    simp only [OT.deep, Bool.and_eq_true] at hm
    have h : drawStep P T n D ops.toList i (drawT P T n D ops.toList t) F k pn w /\ drawStep P T n D ops.toList j (drawT P T n D ops.toList t') F k pn w := h
    simp only [ordT, Bool.and_eq_true] at ho
    obtain ⟨⟨⟨⟨⟨hr, hpi⟩, hpj⟩, _⟩, oi⟩, oj⟩ := ho
    have hr : Region.ready .any ops listed = [i, j] := by simpa using hr
    refine zBv hr (by simp) (λq hq => ?_)
    simp only [List.mem_cons, List.not_mem_nil, or_false] at hq
    rcases hq with rfl | rfl
    · exact oper takeK q t m listed F w a (λo' ho' => by simpa [plainB, ho'] using hpi) ha h0 (λF w a ha h0 h => ih m _ F w a hm.1 ha h0 oi h) h.1
    · exact oper takeK q t' m listed F w a (λo' ho' => by simpa [plainB, ho'] using hpj) ha h0 (λF w a ha h0 h => jh m _ F w a hm.2 ha h0 oj h) h.2
  | lone i t ih =>
    intro m listed F w a hm ha h0 ho h
    cases m with
    | zero => cases hm
    | succ m =>
    have hm : t.deep m = true := hm
    have h : drawStepG (λ_ => false) P T n D ops.toList i (drawT P T n D ops.toList t) F k pn w := h
    simp only [ordT, Bool.and_eq_true] at ho
    have hr : Region.ready .any ops listed = [i] := by simpa using ho.1
    refine zBv hr (by simp) (λj hj => ?_)
    obtain rfl : j = i := by simpa using hj
    exact oper (λ_ => false) j t m listed F w a (λ_ _ => rfl) ha h0 (λF w a ha h0 h => ih m _ F w a hm ha h0 ho.2 h) h
  | duo i t j t' ih jh =>
    intro m listed F w a hm ha h0 ho h
    cases m with
    | zero => cases hm
    | succ m =>
    simp only [OT.deep, Bool.and_eq_true] at hm
    have h : drawStepG (λ_ => false) P T n D ops.toList i (drawT P T n D ops.toList t) F k pn w /\ drawStepG (λ_ => false) P T n D ops.toList j (drawT P T n D ops.toList t') F k pn w := h
    simp only [ordT, Bool.and_eq_true] at ho
    obtain ⟨⟨hr, oi⟩, oj⟩ := ho
    have hr : Region.ready .any ops listed = [i, j] := by simpa using hr
    refine zBv hr (by simp) (λq hq => ?_)
    simp only [List.mem_cons, List.not_mem_nil, or_false] at hq
    rcases hq with rfl | rfl
    · exact oper (λ_ => false) q t m listed F w a (λ_ _ => rfl) ha h0 (λF w a ha h0 h => ih m _ F w a hm.1 ha h0 oi h) h.1
    · exact oper (λ_ => false) q t' m listed F w a (λ_ _ => rfl) ha h0 (λF w a ha h0 h => jh m _ F w a hm.2 ha h0 oj h) h.2
  | tri i t j t' l t'' ih jh lh =>
    intro m listed F w a hm ha h0 ho h
    cases m with
    | zero => cases hm
    | succ m =>
    simp only [OT.deep, Bool.and_eq_true] at hm
    have h : drawStepG (λ_ => false) P T n D ops.toList i (drawT P T n D ops.toList t) F k pn w /\ drawStepG (λ_ => false) P T n D ops.toList j (drawT P T n D ops.toList t') F k pn w /\ drawStepG (λ_ => false) P T n D ops.toList l (drawT P T n D ops.toList t'') F k pn w := h
    simp only [ordT, Bool.and_eq_true] at ho
    obtain ⟨⟨⟨hr, oi⟩, oj⟩, ol⟩ := ho
    have hr : Region.ready .any ops listed = [i, j, l] := by simpa using hr
    refine zBv hr (by simp) (λq hq => ?_)
    simp only [List.mem_cons, List.not_mem_nil, or_false] at hq
    rcases hq with rfl | rfl | rfl
    · exact oper (λ_ => false) q t m listed F w a (λ_ _ => rfl) ha h0 (λF w a ha h0 h => ih m _ F w a hm.1.1 ha h0 oi h) h.1
    · exact oper (λ_ => false) q t' m listed F w a (λ_ _ => rfl) ha h0 (λF w a ha h0 h => jh m _ F w a hm.1.2 ha h0 oj h) h.2.1
    · exact oper (λ_ => false) q t'' m listed F w a (λ_ _ => rfl) ha h0 (λF w a ha h0 h => lh m _ F w a hm.2 ha h0 ol h) h.2.2
theorem drawRT(hT:T.ok P=true)(hm:P.follows .mixedOrders=true)(D:Nat->Prop)(t:OT){ops:Array Oper}{Q:KS}{F:Nat->Value}(ho:ordTOK ops t=true)
  (h:∀w',Stp w w'->w'.heap=w.heap->drawT P T n D ops.toList t F Q.nrm (λc w=>∀F',agree (wr (.region i ops true)) F F'->Q.pan F' c w) w'):DeepS P T n (.region i ops true) Q F w:=by
 rw [zAN]
 intro md hmd a ha
 simp only [ordTOK,Bool.and_eq_true] at ho
 have hd:=zHI hT (r:=md) D ops F (wr (.region i ops true)) (λt ht=>ht) Q.nrm (λc w=>∀F',agree (wr (.region i ops true)) F F'->Q.pan F' c w) ho.1.1.1 ho.1.1.2 t ops.size (Array.replicate ops.size false) F _ a ho.1.2 ha (λ_ _=>rfl) ho.2 (h _ ⟨Ext.drew w⟩ rfl)
 refine Code.wpIn_mono ?_ (wpIn_region_any hm (zBu _ _ _ _ hd))
 intro e a' w' hq
 cases e <;> simp only [LQ] at hq <;> simp only [KS.lift]
 ·exact hq
 ·obtain⟨F',h1,h2,h3⟩:=hq;exact⟨F',h1,h2,h3 F' h2⟩
end
end Go.W
namespace Go.W
open Go
open Enc (enc)
variable {B N i j k m n:Nat} {D:Nat -> Prop} {P:Program} {a a':Option Addr} {u u' w w':World}
section
variable {P:Program} {k:Value->World->Prop} {pn:List PanicEntry->World->Prop} {w:World}
theorem rrem{kd:IntKind}{x y:Int}(h0:0<=x)(h1:0<y)(hk:k (.int kd (x % y)) w):RemS kd x y k w:=by
 rw [zCB];exact⟨by omega,by rw [Int.tmod_eq_emod_of_nonneg h0];exact hk⟩
class IntT (P:Program) (t:TypeId):Prop where
 h:∃kd,P.underlying t=some (.int kd)
def fldB (P:Program) (t:TypeId) (l:List (TypeId×Nat)):Bool:=
 match P.underlying t with
 | some (.struct fs) => decide (fs.toList.map (λf => (f.type, f.offset)) = l) && fs.toList.all (λf => f.name != "_") && !P.stoodInHeld t
 |_=>false
def eqL (d:Nat) (xs ys:Array Value):List (TypeId×Nat)->Sem Bool
 |[]=>pure true
 |(t,o)::r=>do
  let a <-part t xs o
  let b <-part t ys o
  let e <-Op.equalIn d t a b
  if (!e)=true then pure false else eqL d xs ys r
theorem zGA(d : Nat)(xs ys : Array Value) : ∀ (fs : List Field), fs.all (λf => f.name != "_") = true -> Op.eqFields d xs ys fs = eqL d xs ys (fs.map λf => (f.type, f.offset))
 |[],_=>rfl
 |f::fs,h=>by
  simp only [List.all_cons,Bool.and_eq_true,bne_iff_ne,ne_eq] at h
  simp only [Op.eqFields,List.map_cons,eqL]
  rw [if_pos h.1,zGA d xs ys fs (by simpa using h.2)]
theorem zG0{t:TypeId}{l:List (TypeId×Nat)}(h:fldB P t l=true)(d:Nat)(xs ys:Array Value)(w:World):(Op.equalIn (d+1) t (.agg xs) (.agg ys)).run P w=(eqL d xs ys l).run P w:=by
 unfold fldB at h
 split at h
 ·rename_i fs hfs
  simp only [Bool.and_eq_true,decide_eq_true_eq,Bool.not_eq_true'] at h
  obtain⟨⟨h1,h2⟩,h3⟩:=h
  have hf:P.fieldsOf t=fs:=by unfold Program.fieldsOf;rw [hfs]
  rw [run_equalIn_struct w d t xs ys (by rw [hf];exact hfs) h3,hf,zGA d xs ys fs.toList h2,h1]
 ·cases h
theorem zKK(d:Nat)(xs ys:Array Value)(w:World):(eqL d xs ys []).run P w=.ok true w:=rfl
theorem zGe{t:TypeId}(ht:One P t){cs:Array Value}{o:Nat}{v:Value}(h:cs[o]? = some v)(w:World):(part t cs o).run P w=.ok v w:=by
 unfold part
 simp only [Sem.run_bind,zEv ht.h,Result.andThen_ok,Bool.false_eq_true,if_false,h,Sem.run_pure]
theorem zDl{t:TypeId}[ht:One P t][hi:IntT P t]{d o:Nat}{xs ys:Array Value}{kd:IntKind}{a b:Int}{r:List (TypeId×Nat)}{c:Bool}{w:World}(ha:xs[o]? = some (.int kd a))(hb:ys[o]? = some (.int kd b))(hr:(eqL (d+1) xs ys r).run P w=.ok c w):
  (eqL (d+1) xs ys ((t,o)::r)).run P w=.ok ((a==b) && c) w:=by
 obtain⟨k',hk'⟩:=hi.h
 unfold eqL
 simp only [Sem.run_bind,zGe ht ha,zGe ht hb,Result.andThen_ok,run_equalIn_int w d t kd k' a b hk']
 cases h:(a==b) with
 |true=>simpa using hr
 |false=>simp
class EqT (P:Program) (t:TypeId) (α:Type) [Enc α]:Prop where
 guard:P.eqGuardType P.depth t=false
 eq:∀(d:Nat) (x y:α) (w:World),∃b:Bool,(Op.equalIn (d+8) t (agg x) (agg y)).run P w=.ok b w/\(b=true↔x=y)
variable {α:Type} [Enc α]
theorem zOj{t:TypeId}(ht:EqT P t α){X Y:Operand}(x y:α):∃b:Bool,(b=true↔x=y)/\∀w,(do eqGuard .eql t X Y (agg x) (agg y);binOp .eql t (agg x) (agg y):Sem Value).run P w=.ok (.bool b) w:=by
 classical
 refine⟨decide (x=y),by simp,λw=>?_⟩
 obtain⟨b,h1,h2⟩:=ht.eq 9992 x y w
 have:b=decide (x=y):=by
  by_cases e:x=y
  ·rw [h2.2 e];simp [e]
  ·cases b with
   |true=>exact absurd (h2.1 rfl) e
   |false=>simp [e]
 subst this
 rw [Sem.run_bind,run_eqGuard_agg w .eql t X Y _ _ ht.guard,Result.andThen_ok]
 show (binOp .eql t (.agg _) (.agg _)).run P w=_
 rw [run_eql_struct w t]
 have h1:(Op.equalIn 10000 t (.agg (enc x).toArray) (.agg (enc y).toArray)).run P w=.ok _ w:=h1
 rw [h1];rfl
theorem zOk{t:TypeId}(ht:EqT P t α){X Y:Operand}(x y:α):∃b:Bool,(b=true↔x≠y)/\∀w,(do eqGuard .neq t X Y (agg x) (agg y);binOp .neq t (agg x) (agg y):Sem Value).run P w=.ok (.bool b) w:=by
 classical
 refine⟨!decide (x=y),by simp,λw=>?_⟩
 obtain⟨b,h1,h2⟩:=ht.eq 9992 x y w
 have:b=decide (x=y):=by
  by_cases e:x=y
  ·rw [h2.2 e];simp [e]
  ·cases b with
   |true=>exact absurd (h2.1 rfl) e
   |false=>simp [e]
 subst this
 rw [Sem.run_bind,run_eqGuard_agg w .neq t X Y _ _ ht.guard,Result.andThen_ok]
 show (binOp .neq t (.agg _) (.agg _)).run P w=_
 rw [run_neq_struct w t]
 have h1:(Op.equalIn 10000 t (.agg (enc x).toArray) (.agg (enc y).toArray)).run P w=.ok _ w:=h1
 rw [h1];rfl
theorem tgeq{t:TypeId}(α:Type)[Enc α][ht:EqT P t α]{X Y:Operand}{k:Value->Prop}(x y:α)(h1:x=y->k (.bool true))(h2:x≠y->k (.bool false)):TakeS P (do eqGuard .eql t X Y (agg x) (agg y);binOp .eql t (agg x) (agg y)) D k w:=by
 obtain⟨b,hb,hr⟩:=zOj ht (X:=X) (Y:=Y) x y
 rw [zAg]
 refine⟨_,λw' _=>hr w',?_⟩
 cases b with
 |true=>exact h1 (hb.1 rfl)
 |false=>exact h2 λe=>by have:=hb.2 e;cases this
theorem tgne{t:TypeId}(α:Type)[Enc α][ht:EqT P t α]{X Y:Operand}{k:Value->Prop}(x y:α)(h1:x≠y->k (.bool true))(h2:x=y->k (.bool false)):TakeS P (do eqGuard .neq t X Y (agg x) (agg y);binOp .neq t (agg x) (agg y)) D k w:=by
 obtain⟨b,hb,hr⟩:=zOk ht (X:=X) (Y:=Y) x y
 rw [zAg]
 refine⟨_,λw' _=>hr w',?_⟩
 cases b with
 |true=>exact h1 (hb.1 rfl)
 |false=>exact h2 (Classical.not_not.1 λe=>by have:=hb.2 e;cases this)
theorem tixO{t e:TypeId}{z:Value}{sz by':Nat}[ht:SlT P t e][he:Elem P e z sz by'](hsz:Enc.sz α=sz){k:Value->Prop}{c:Nat}{l:List α}{x:α}(h:Own B e w (.slice a n c) l)(hi:l[i]? = some x)
  (hk:∀g,Value.blk (.slice a n c)=some g->B<=g->At w g (i*sz) (enc x)->k (.pointer (some ⟨g,i*sz,none⟩))):TakeS P (Instr.indexAt t (.slice a n c) (.int .i64 i)) D k w:=by
 have hl:i<l.length:=(List.getElem?_eq_some_iff.1 hi).1
 obtain⟨g,cur,rfl,rfl,hb,hg,hnc,hcm,hcs,htake⟩:=h.blk (by intro h0;subst h0;simp at hl)
 rw [zAg]
 refine⟨_,λw' _=>zDy ht he (b:=g) (o:=0) (by omega) (by omega) w',?_⟩
 obtain⟨_,b,o,hbo,hat⟩:=h.sl.at hi
 cases hbo
 subst hsz
 have:=hk g rfl hb (by simpa using hat)
 simpa using this
theorem Bk.notOwn{B':Nat}{e e':TypeId}{v:Value}{l:List α}{b:Nat}{cs:List Value}(k:Bk w b cs e')(h:Own B e w v l)(hne:e≠e'):¬ownD B' v b:=by
 intro hd
 rcases h with ⟨_,a,rfl⟩|h
 ·exact hd.2.2 a rfl
 ·rcases h.2 with ⟨rfl,_⟩|⟨g,cap,cur,rfl,_,hg,_⟩
  ·cases hd.2.1
  ·have h2:=hd.2.1
   simp only [Value.blk] at h2;cases h2
   have:=k.h;rw [hg] at this;cases this;exact hne rfl
class PtrT (P:Program) (t:TypeId):Prop where
 h:∃e,P.underlying t=some (.pointer e)
theorem zGm(d:Nat){t e:TypeId}(he:P.underlying t=some (.pointer e))(p:Option Addr)(w:World):(Op.equalIn (d+1) t (.pointer p) (.pointer none)).run P w=.ok p.isNone w:=by
 cases p <;> simp [Op.equalIn,run_underlying he]
theorem zNi{t:TypeId}(ht:PtrT P t){X Y:Operand}(p:Option Addr)(w:World):(do eqGuard .eql t X Y (.pointer p) (.pointer none);binOp .eql t (.pointer p) (.pointer none):Sem Value).run P w=.ok (.bool p.isNone) w:=by
 obtain⟨e,he⟩:=ht.h
 have g:(eqGuard .eql t X Y (.pointer p) (.pointer none)).run P w=.ok () w:=rfl
 rw [Sem.run_bind,g,Result.andThen_ok]
 simp only [binOp]
 rw [Sem.run_bind]
 have:(Op.equal t (.pointer p) (.pointer none)).run P w=.ok p.isNone w:=by
  exact zGm 9999 he p w
 rw [this];rfl
theorem rpnil{t:TypeId}[ht:PtrT P t]{X Y:Operand}{p:Option Addr}(hk:k (.bool p.isNone) w):SemV P (do eqGuard .eql t X Y (.pointer p) (.pointer none);binOp .eql t (.pointer p) (.pointer none)) k pn w:=
 SemV.of (zNi ht p w) hk
end
def Gw (w w':World):Prop:=∃q os,w'=Go.Sort.grow (w.drewN q) os
theorem Gw.refl(w:World):Gw w w:=⟨0,#[],by simp [World.drewN]⟩
theorem Gw.trans{a b c:World}(h:Gw a b)(k:Gw b c):Gw a c:=by
 obtain⟨q,os,rfl⟩:=h
 obtain⟨q',os',rfl⟩:=k
 exact⟨q+q',os++os',by simp [World.drewN,Go.Sort.grow,Nat.add_assoc,Array.append_assoc]⟩
theorem Nx.gw{b:Nat}(n:Nx w w' b):Gw w w':=by
 obtain⟨o,rfl⟩:=n.g
 exact⟨0,#[o],by rw [Go.Sort.alloc_eq_grow];rfl⟩
theorem Gw.ext(h:Gw w w'):Ext w w':=by
 obtain⟨q,os,rfl⟩:=h
 exact⟨rfl,rfl,rfl,by simp [Go.Sort.grow,World.drewN],λb hb _=>by simp only [Go.Sort.grow,World.drewN];exact Array.getElem?_append_left hb,λb o hb _=>by simp only [Go.Sort.grow,World.drewN];rw [Array.getElem?_append_left (blk_lt hb)];exact hb⟩
section
variable {α:Type} [Enc α] {P:Program} {T:Tab} {n:Nat} {k:Value->World->Prop} {pn:List PanicEntry->World->Prop} {w:World}
theorem rbsN{t e:TypeId}{z:Value}{sz by':Nat}[ht:SlT P t e][he:Elem P e z sz by'](xs:List α)(hsz:Enc.sz α=sz){n:Nat}{vs:List Value}(hv:vs.map (λv=>v.cells.toList)=xs.map enc)(hn:xs.length=n)(hb:n*sz<=16777216)
  (hk:∀b w',Nx w w' b->SlF w' (.slice (some ⟨b,0,none⟩) n n) xs->k (.slice (some ⟨b,0,none⟩) n n) w'):SemV P (Instr.buildSlice t n (partsOf vs 0).toArray) k pn w:=
 SemV.of (run_bs ht he hsz hv hn hb w) (hk _ _ (Nx.mk' w _) ((New.mk' w _ e).sl (by simp) hn))
theorem drawRE(hT:T.ok P=true)(hm:P.follows .mixedOrders=true)(D:Nat->Prop)(t:OT){ops:Array Oper}{Q:KS}{F:Nat->Value}{w:World}(ho:ordTOK ops t=true)
  (h:∀w',Stp w w'->Gw w w'->drawT P T n D ops.toList t F Q.nrm (λc w=>∀F',agree (wr (.region i ops true)) F F'->Q.pan F' c w) w'):DeepS P T n (.region i ops true) Q F w:=by
 rw [zAN]
 intro md hmd a ha
 simp only [ordTOK,Bool.and_eq_true] at ho
 have hd:=zHI hT (r:=md) D ops F (wr (.region i ops true)) (λt ht=>ht) Q.nrm (λc w=>∀F',agree (wr (.region i ops true)) F F'->Q.pan F' c w) ho.1.1.1 ho.1.1.2 t ops.size (Array.replicate ops.size false) F _ a ho.1.2 ha (λ_ _=>rfl) ho.2 (h { w with drawn:=w.drawn+1 } ⟨Ext.drew w⟩ ⟨1,#[],by simp [World.drewN]⟩)
 refine Code.wpIn_mono ?_ (wpIn_region_any hm (zBu _ _ _ _ hd))
 intro e a' w' hq
 cases e <;> simp only [LQ] at hq <;> simp only [KS.lift]
 ·exact hq
 ·obtain⟨F',h1,h2,h3⟩:=hq;exact⟨F',h1,h2,h3 F' h2⟩
end
end Go.W
namespace Go.W
open Go
variable {B N i j k m n:Nat} {D:Nat -> Prop} {P:Program} {a a':Option Addr} {u u' w w':World}
def methB (P:Program) (t:TypeId) (name:String) (f:FuncId) (ptr:Bool) (e:TypeId):Bool:=
 match P.info? t with
 |some i=>(match i.methods.find? (·.name==name) with
  |some m=>m.path.toList.isEmpty && (match m.func with|some (g,p)=>Nat.beq g f && (p==ptr)|none=>false)
  |none=>false) && (match P.underlying t with|some (.pointer e')=>Nat.beq e' e|_=>false)
 |none=>false
class MethP (P:Program) (t:TypeId) (name:String) (f:outParam FuncId):Prop where
 h:∃e,methB P t name f true e=true
class MethV (P:Program) (t:TypeId) (name:String) (f:outParam FuncId) (e:outParam TypeId):Prop where
 h:methB P t name f false e=true
section
variable {P:Program} {k:Value->World->Prop} {pn:List PanicEntry->World->Prop} {w:World}
theorem zGP{t:TypeId}{name:String}{f:FuncId}{ptr:Bool}{e:TypeId}(h:methB P t name f ptr e=true):
  ∃i m,P.info? t=some i/\i.methods.find? (·.name==name)=some m/\m.path.toList=[]/\m.func=some (f,ptr)/\P.underlying t=some (.pointer e):=by
 unfold methB at h
 split at h
 ·rename_i i hi
  rw [Bool.and_eq_true] at h
  obtain⟨h1,h2⟩:=h
  split at h1
  ·rename_i m hm
   rw [Bool.and_eq_true] at h1
   obtain⟨h3,h4⟩:=h1
   split at h4
   ·rename_i g p hf
    simp only [Bool.and_eq_true,beq_iff_eq] at h4
    split at h2
    ·rename_i e' he
     obtain rfl:=Nat.eq_of_beq_eq_true h4.1
     obtain rfl:=h4.2
     obtain rfl:=Nat.eq_of_beq_eq_true h2
     exact⟨i,m,hi,hm,by simpa using h3,hf,he⟩
    ·cases h2
   ·cases h4
  ·cases h1
 ·cases h
theorem zI0{t:TypeId}{i:TypeInfo}(_:P.info? t=some i):∃n,P.types.size+Made.depth=n+1:=by
 have:0<Made.depth:=by decide
 exact⟨P.types.size+Made.depth - 1,by omega⟩
theorem zMo{t:TypeId}{name:String}{f:FuncId}(ht:MethP P t name f)(v:Value)(w:World):(method (P.types.size+Made.depth) t v name).run P w=.ok (f,v) w:=by
 obtain⟨e,h⟩:=ht.h
 obtain⟨i,m,hi,hm,hp,hf,hu⟩:=zGP h
 obtain⟨n,hn⟩:=zI0 hi
 rw [hn]
 unfold method
 simp [typeInfo,hi,hm,hp,hf,follow,receiverAt,underlying,hu,Place.get]
theorem rinv{o:Oper}{F:Nat->Value}{c:Call}{r:Operand}{name:String}{t:TypeId}{v:Value}{f:FuncId}{vs:List Value}
  (ho:o.op=.call c)(hc:c.callee=.invoke r name)(hr:ev F r=.iface t v)(hv:evL F c.args.toList=vs)[ht:MethP P t name f](h:CallS P f (v::vs).toArray k pn w):NextS P (execOp (ev F) o) k pn w:=by
 have hva:c.args.map (ev F)=vs.toArray:=by rw [<-hv,zAY]
 rw [zA8] at h
 have e:(execOp (ev F) o).run P w=.ok (.enter f (v::vs).toArray) w:=by
  unfold execOp
  simp only [ho,resolve,hc,hr,hva]
  simp only [pure_bind,invoke]
  have h0:(#[Value.iface t v]++vs.toArray)[0]? = some (Value.iface t v):=by simp
  simp only [h0]
  have h1:(#[Value.iface t v]++vs.toArray).extract 1 (#[Value.iface t v]++vs.toArray).size=vs.toArray:=by
   apply Array.ext'
   simp
  rw [h1]
  unfold callMethod
  simp only [Sem.run_bind,run_program,Result.andThen_ok,zMo ht]
  rw [zAB h.1];simp
 rw [zAR,e]
 exact⟨h⟩
theorem zNl(t : TypeId)(a : Addr)(nm : String)(w : World) : (Builtin.ssaWrapNilChk_ #[t] t #[.pointer (some a), strVal "", strVal nm]).run P w = .ok (.pointer (some a)) w := rfl
theorem zMq{t e:TypeId}(hu:P.underlying t=some (.pointer e)){a:Addr}{u:Value}{w:World}(hl:(loadVar e a).run P w=.ok u w)(nm:String):(receiverAt t (.val (.pointer (some a))) false (some nm)).run P w=.ok u w:=by
 unfold receiverAt
 simp only [Sem.run_bind,underlying,run_program,Result.andThen_ok,hu,Place.get,Sem.run_pure,zNl,asAddr,hl]
theorem zMp{t e:TypeId}{name:String}{f:FuncId}(ht:MethV P t name f e){a:Addr}{u:Value}{w:World}(hl:(loadVar e a).run P w=.ok u w):(method (P.types.size+Made.depth) t (.pointer (some a)) name).run P w=.ok (f,u) w:=by
 obtain⟨i,m,hi,hm,hp,hf,hu⟩:=zGP ht.h
 obtain⟨n,hn⟩:=zI0 hi
 rw [hn]
 unfold method
 have hpe:m.path=#[]:=by apply Array.ext';simpa using hp
 simp [typeInfo,hi,hm,hf,follow,hpe]
 rw [zMq hu hl];rfl
theorem rinvV{o:Oper}{F:Nat->Value}{c:Call}{r:Operand}{name:String}{t e:TypeId}{a:Addr}{f:FuncId}{vs:List Value}
  (ho:o.op=.call c)(hc:c.callee=.invoke r name)(hr:ev F r=.iface t (.pointer (some a)))(hv:evL F c.args.toList=vs)[ht:MethV P t name f e](h:LoadR P e a (λu=>CallS P f (u::vs).toArray k pn w) w):NextS P (execOp (ev F) o) k pn w:=by
 have hva:c.args.map (ev F)=vs.toArray:=by rw [<-hv,zAY]
 obtain⟨u,hl,h⟩:=h.out
 rw [zA8] at h
 have e:(execOp (ev F) o).run P w=.ok (.enter f (u::vs).toArray) w:=by
  unfold execOp
  simp only [ho,resolve,hc,hr,hva]
  simp only [pure_bind,invoke]
  have h0:(#[Value.iface t (.pointer (some a))]++vs.toArray)[0]? = some (Value.iface t (.pointer (some a))):=by simp
  simp only [h0]
  have h1:(#[Value.iface t (.pointer (some a))]++vs.toArray).extract 1 (#[Value.iface t (.pointer (some a))]++vs.toArray).size=vs.toArray:=by
   apply Array.ext'
   simp
  rw [h1]
  unfold callMethod
  simp only [Sem.run_bind,run_program,Result.andThen_ok,zMp ht hl]
  rw [zAB h.1];simp
 rw [zAR,e]
 exact⟨h⟩
end
end Go.W
