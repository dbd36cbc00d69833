/-
  Proved here: parts of this claim.
  Conditions: told at each.
-/
import Derived.KernelRfl
import Derived.WalkKit
import Derived.Orders
import Derived.OrdersHeld
import Derived.OrdersIn
import Derived.TacticsIn
import Derived.RangeFuncIn
import Derived.Scope
import Derived.RangeFuncLeaves
import Derived.RangeFuncRecord
import Derived.Laws.CopyOwn
import Derived.Laws.MakeOwn
import Derived.ProofKit
import Derived.SizedLaws
import Derived.WalkSpells
import Derived.Laws.StructEq
import Derived.Sort.Grow
import Derived.Deep.Draws
set_option linter.unusedVariables false
set_option linter.unusedSimpArgs false
namespace Go.W
open Go
abbrev Zz:Value:=.int .i64 0
abbrev Qa:=@List.getElem_mem
abbrev Qb:=@List.length_append
abbrev Qc:=@List.mem_singleton
abbrev Qd:=@List.getElem?_eq_getElem
abbrev Qe:=@Nat.le_refl
abbrev Qf:=@List.mem_append
abbrev Qg:=@List.take_length
abbrev Qh:=@Result.andThen_ok
abbrev Qj:=@List.take_of_length_le
abbrev Qk:=@List.getD_eq_getElem?_getD
abbrev Ql:=@List.mem_cons
abbrev Qm:=@List.length_take
abbrev Qn:=@List.eq_nil_of_length_eq_zero
abbrev Qo:=@Sem.run_bind
abbrev Qp:=@List.append_assoc
abbrev Qq:=@List.mem_map
abbrev Qr:=@List.length_map
abbrev Qs:=@List.mem_cons_self
abbrev Qv:=@List.length_filter_le
abbrev Qw:=@Nat.le_trans
abbrev Qx:=@List.nodup_iff_pairwise_ne
abbrev Qy:=@List.getElem?_eq_some_iff
abbrev Qz:=@Bool.and_eq_true
abbrev QA:=@List.length_cons
abbrev QB:=@List.map_append
abbrev QC:=@List.mem_filter
abbrev QD:=@Nat.eq_of_beq_eq_true
abbrev QE:=@List.append_nil
abbrev QF:=@List.mem_cons_of_mem
abbrev QG:=@Bool.or_eq_false_iff
abbrev QH:=@Nat.lt_or_ge
abbrev QI:=@List.mem_iff_getElem
abbrev QJ:=@Nat.lt_of_lt_of_le
abbrev QK:=@List.getElem?_map
abbrev QL:=@Option.some.inj
abbrev QM:=@List.pairwise_cons
abbrev QN:=@List.mem_append_left
abbrev QO:=@List.take_succ_eq_append_getElem
abbrev QP:=@Option.getD_some
abbrev QR:=@List.length_drop
abbrev QS:=@List.map_cons
abbrev QT:=@Array.getElem?_eq_getElem
abbrev QU:=@Int.eq_ofNat_of_zero_le
abbrev QV:=@List.filter_append
abbrev QW:=@Int.toNat_natCast
abbrev QX:=@List.pairwise_iff_getElem
abbrev QY:=@List.pairwise_map
abbrev QZ:=@List.length_nil
abbrev Q0:=@List.mem_range
abbrev Q2:=@Classical.not_not
abbrev Ja:=@List.map_congr_left
abbrev Jb:=@Code.wpIn_mono
abbrev Jc:=@List.length_set
abbrev Jd:=@Sem.run_pure
abbrev Je:=@List.nil_append
abbrev Jf:=@List.drop_zero
abbrev Jg:=@List.getElem?_eq_none
abbrev Jh:=@Int.toNat_of_nonneg
abbrev Ji:=@Nat.mul_le_mul_right
abbrev Jj:=@Array.getElem?_toList
abbrev Jk:=@World.putObj_heap_other
abbrev Jl:=@List.flatMap_append
abbrev Jm:=@List.range_succ
abbrev Jn:=@Array.getElem?_eq_none
abbrev Jo:=@Nat.add_mul
abbrev Jp:=@List.eraseIdx_eq_take_drop_succ
abbrev Jq:=@Ne.symm
abbrev Jr:=@Array.getD_eq_getD_getElem?
abbrev Jt:=@Bool.false_eq_true
abbrev Jv:=@Array.getElem?_modify
abbrev Jw:=@List.filter_cons_of_neg
abbrev Jy:=@List.mem_of_getElem?
abbrev Jz:=@Array.toArray_toList
abbrev JA:=@List.filter_eq_nil_iff
abbrev JB:=@List.findIdx?_eq_some_iff_getElem
abbrev JC:=@List.nodup_cons
abbrev JD:=@Option.map_some
abbrev JF:=@Nat.sub_zero
abbrev JH:=@List.filter_eq_self
abbrev JI:=@List.length_pos_iff
abbrev JJ:=@List.mem_append_right
abbrev JK:=@Option.some.injEq
abbrev JL:=@List.filter_cons_of_pos
abbrev JM:=@List.perm_ext_iff_of_nodup
abbrev JN:=@Nat.sub_self
abbrev JO:=@Nat.zero_add
abbrev JP:=@List.map_nil
abbrev JQ:=@Option.getD_none
abbrev JS:=@List.drop_eq_getElem_cons
abbrev JT:=@List.getElem_set_ne
abbrev JU:=@List.nodup_append
abbrev JV:=@List.flatMap_cons
abbrev JW:=@List.take_append_drop
abbrev JX:=@List.getElem_set_self
abbrev JY:=@List.foldl_cons
abbrev JZ:=@UInt8.toNat_ofNat'
abbrev Va:=@Array.getElem?_setIfInBounds_ne
abbrev Vb:=@List.getElem_cons_zero
abbrev Vc:=@Array.length_toList
abbrev Vd:=@List.take_succ_cons
abbrev Ve:=@List.findIdx?_eq_none_iff
abbrev Vf:=@Nat.le_of_ble_eq_true
abbrev Vh:=@List.getElem?_take
abbrev Vi:=@List.any_eq_true
abbrev Vj:=@List.filter_cons
abbrev Vk:=@List.getElem?_replicate
abbrev Vl:=@List.ext_getElem?
abbrev Vm:=@List.length_range
abbrev Vn:=@List.set_eq_take_append_cons_drop
abbrev Vo:=@Option.map_eq_some_iff
abbrev Vp:=@List.Perm.append_left
abbrev Vq:=@List.takeWhile_append_dropWhile
abbrev Vr:=@Int.le_refl
abbrev Vs:=@Int.emod_nonneg
abbrev Vt:=@List.length_eraseIdx
abbrev Vu:=@List.mem_of_mem_take
abbrev Vv:=@List.Pairwise.imp_of_mem
abbrev Vw:=@List.getElem?_set
abbrev Vy:=@Bool.not_eq_true
abbrev Vz:=@List.getElem?_drop
abbrev VA:=@List.contains_iff_mem
abbrev VB:=@Nat.min_eq_left
abbrev VC:=@List.length_singleton
abbrev VD:=@Go.RowKit.Below.heap_alloc
abbrev VE:=@List.perm_append_singleton
abbrev VF:=@List.foldl_append
abbrev VG:=@Nat.lt_trichotomy
abbrev VH:=@List.findIdx?_map
abbrev VI:=@List.getElem_take
abbrev VJ:=@Bool.not_eq_true'
abbrev VK:=@List.pairwise_append
abbrev VL:=@List.getElem?_append_left
abbrev VM:=@List.map_map
abbrev VN:=@Option.bind_some
abbrev VO:=@List.cons_append
abbrev VP:=@List.mem_flatMap
abbrev VQ:=@List.getElem_inj
abbrev VR:=@List.getElem_append
abbrev VS:=@List.getElem?_range
abbrev VT:=@Int.emod_lt_of_pos
abbrev VU:=@Bool.false_ne_true
abbrev VV:=@Bool.or_eq_true
abbrev VW:=@List.mem_replicate
abbrev VX:=@World.putObj_heap_same
abbrev VY:=@List.take_append_of_le_length
abbrev VZ:=@List.drop_drop
abbrev V0:=@List.drop_left
abbrev V1:=@Array.getElem?_setIfInBounds
abbrev V6:=@List.take_left
abbrev Xa:=@List.take_zero
abbrev Xb:=@Act.put_comm
abbrev Xc:=@List.dropLast_concat_getLast
abbrev Xd:=@World.alloc_heap_new
abbrev Xe:=@Nat.blt_eq
abbrev Xf:=@List.not_mem_nil
abbrev Xg:=@List.ext_getElem
abbrev Xh:=@List.getElem_set
abbrev Xi:=@List.map_toArray
abbrev Xj:=@List.nodup_range
abbrev Xk:=@List.getElem?_append_right
abbrev Xl:=@Int.tmod_eq_emod_of_nonneg
abbrev Xm:=@Prod.mk.injEq
abbrev Xn:=@Array.getElem?_append_left
abbrev Xo:=@List.length_filter_lt_length_iff_exists
abbrev Xp:=@Int.tdiv_eq_ediv_of_nonneg
abbrev Xq:=@Nat.mul_one
abbrev Xr:=@Array.toList_modify
abbrev Xs:=@ByteArray.toList_eq
abbrev Xt:=@Option.isSome_iff_ne_none
abbrev Xv:=@Nat.add_comm
abbrev Xw:=@Classical.em
abbrev Xx:=@Option.isSome_iff_exists
abbrev Xy:=@Nat.add_zero
abbrev Xz:=@List.take_take
abbrev XA:=@World.block_lt_of_cell?
abbrev XB:=@List.length_eq_zero_iff
abbrev XC:=@List.filter_congr
abbrev XD:=@Int.lt_trichotomy
abbrev XE:=@Nat.zero_le
abbrev XF:=@List.drop_eq_nil_of_le
abbrev XG:=@List.drop_of_length_le
abbrev XH:=@List.perm_middle
abbrev XI:=@List.take_append
abbrev XJ:=@List.flatMap_map
abbrev XK:=@Array.toList_map
abbrev XL:=@List.all_eq_true
abbrev XM:=@List.flatMap_nil
abbrev XN:=@Go.Sort.heap_grow_old
abbrev XO:=@List.dropLast_eq_take
abbrev XQ:=@List.pairwise_flatMap
abbrev XR:=@Nat.pow_le_pow_right
abbrev XS:=@Nat.pow_succ
abbrev XT:=@List.getElem?_append
abbrev XV:=@List.sum_append
abbrev XW:=@List.takeWhile_cons
abbrev XY:=@List.filter_sublist
abbrev XZ:=@List.not_lt
abbrev X0:=@Nat.eq_zero_or_pos
abbrev Ya:=@ArrivesIn.of_steps
abbrev Yb:=@Option.toList_some
abbrev Yc:=@Nat.lt_irrefl
abbrev Yd:=@Oper.semAt_eq
abbrev Ye:=@List.all_cons
abbrev Yf:=@List.getElem_drop
abbrev Yg:=@Int.emod_eq_of_lt
abbrev Yh:=@List.drop_length
abbrev Yi:=@Nat.le_of_not_lt
abbrev Yj:=@Nat.le_of_lt
abbrev Yk:=@Int.min_eq_right
abbrev Yl:=@Nat.mod_eq_of_lt
abbrev Ym:=@List.getElem_map
variable {B N i j k m n:Nat} {D:Nat -> Prop} {P:Program} {a a':Option Addr} {u u' w':World}
def upd (F:Nat->Value) (d:Nat) (v:Value):Nat->Value:=λt=>bif Nat.beq t d then v else F t
def ev (F:Nat->Value):Operand->Value
 |.tmp t=>match Nat.beq t 4294967296 with|true=>undef|false=>F t
 |.const v=>v
 |.global g=>.pointer (some ⟨g,0,none⟩)
 |.func f=>.func (.func f) #[] #[]
def argF:List Value->Nat->Value
 |[],_=>undef
 |v::_,0=>v
 |_::vs,t+1=>argF vs t
structure KS where
 nrm:(Nat->Value)->World->Prop
 ext:Nat->(Nat->Value)->World->Prop
 ret:(Nat->Value)->World->Prop
 pan:(Nat->Value)->List PanicEntry->World->Prop
def decD1:Value->Option Deferred
 |.pointer (some ⟨b,_,_⟩)=>some { target:=.collected b,args:=#[] }
 |.agg vs=>match vs.toList with
  |.func fn first captured::args=>some { target:=.fn fn captured,args:=first++args.toArray }
  |_=>none
 |_=>none
def decDL:List Value->List Deferred
 |[]=>[]
 |v::r=>match decD1 v with|some d=>d::decDL r|none=>decDL r
def decD:Value->List Deferred
 |.agg vs=>decDL vs.toList
 |_=>[]
def consD (v d:Value):Value:=match d with
 |.agg vs=>.agg (v::vs.toList).toArray
 |_=>.agg #[v]
theorem zDn(v d:Value)(x:Deferred)(h:decD1 v=some x):decD (consD v d)=x::decD d:=by
 cases d <;> simp [consD,decD,decDL,h]
structure Rel (n:Nat) (F:Nat->Value) (a:Act):Prop where
 size:a.tmps.size=n
 le:n<=4294967296
 defers:a.defers=decD (F 4294967296)
 get:∀t,t≠4294967296->a.tmps.getD t undef=F t
def isD (d:Option Nat) (t:Nat):Bool:=match d with|some d=>Nat.beq t d|none=>false
def isDef:Op->Bool
 |.defer _=>true
 |_=>false
def wrO (o:Oper) (t:Nat):Bool:=isD o.dst t || (isDef o.op && Nat.beq t 4294967296)
def wrL:List Oper->Nat->Bool
 |[],_=>false
 |o::r,t=>wrO o t || wrL r t
def wr:Code->Nat->Bool
 |.region _ ops _,t=>wrL ops.toList t
 |.seq a b,t=>wr a t || wr b t
 |.cond _ a b,t=>wr a t || wr b t
 |.block _ c,t=>wr c t
 |.loop c,t=>wr c t
 |.scope c,t=>wr c t
 |.rangeFunc ..,t=>Nat.beq t 4294967296
 |_,_=>false
def agree (ws:Nat->Bool) (F F':Nat->Value):Prop:=∀t,ws t=false->F' t=F t
def KS.lift (Q:KS) (n:Nat) (F:Nat->Value) (ws:Nat->Bool):Exit->Act->World->Prop:=λe a w =>
 match e with
 |.normal=>∃F',Rel n F' a/\agree ws F F'/\Q.nrm F' w
 |.exit i=>∃F',Rel n F' a/\agree ws F F'/\Q.ext i F' w
 |.ret=>∃F',Rel n F' a/\agree ws F F'/\Q.ret F' w
 |.panic c=>∃F',Rel n F' a/\agree ws F F'/\Q.pan F' c w
 |_=>False
structure Tab where
 kinds:List (Nat×Nat)
 offs:List (Nat×List (Option Nat))
 round:Bool:=false
def fw (r:Option Nat):Fence:={ Fence.wide with round:=r }
structure DeepS (P:Program) (T:Tab) (n:Nat) (c:Code) (Q:KS) (F:Nat->Value) (w:World):Prop where
 out:∀r:Option Nat,r.isSome=T.round->∀a,Rel n F a->c.wpIn (fw r) 0 P (Q.lift n F (wr c)) a w
theorem zAE(P:Program)(T:Tab)(n:Nat)(c:Code)(Q:KS)(F:Nat->Value)(w:World):DeepS P T n c Q F w↔(∀r:Option Nat,r.isSome=T.round->∀a,Rel n F a->c.wpIn (fw r) 0 P (Q.lift n F (wr c)) a w):=⟨λh=>h.out,λh=>⟨h⟩⟩
structure IteC (p A B:Prop):Prop where
 t:p->A
 f:¬p->B
def condS (b:Bool) (A B:Prop):Prop:=match b with|true=>A|false=>B
def callable (P : Program) (f : FuncId) : Prop := ∃ fn, P.funcs[f]? = some fn /\ fn.body.isSome = true /\ (fn.name == "runtime.NumGoroutine") = false
def Ret (R:Value->World->Prop):Ending->World->Prop
 |.returned v,w=>R v w
 |_,_=>False
def RetP (R:Value->World->Prop) (pn:List PanicEntry->World->Prop):Ending->World->Prop
 |.returned v,w=>R v w
 |.panicked c,w=>pn c w
 |.outgrown,_=>False
structure Sp (P:Program) (f:FuncId) (args:Array Value) (w:World) (R:Value->World->Prop):Prop where
 can:callable P f
 calls:Calls P f args w (Ret R)
structure CallS (P:Program) (f:FuncId) (args:Array Value) (k:Value->World->Prop) (pn:List PanicEntry->World->Prop) (w:World):Prop where
 out:callable P f/\Calls P f args w (RetP k pn)
theorem zBQ(P:Program)(f:FuncId)(args:Array Value)(k:Value->World->Prop)(b:List PanicEntry->World->Prop)(w:World):CallS P f args k b w↔(callable P f/\Calls P f args w (RetP k b)):=⟨λh=>h.out,λh=>⟨h⟩⟩
structure SemV (P:Program) (s:Sem Value) (k:Value->World->Prop) (pn:List PanicEntry->World->Prop) (w:World):Prop where
 out:match s.run P w with | .ok v w'=>k v w' | .halt (.panic v) w'=>pn [{ v,recovered:=false }] w' | .halt _ _=>False
theorem zC1(P:Program)(s:Sem Value)(k:Value->World->Prop)(b:List PanicEntry->World->Prop)(w:World):SemV P s k b w↔(match s.run P w with | .ok v w'=>k v w' | .halt (.panic v) w'=>b [{ v,recovered:=false }] w' | .halt _ _=>False):=⟨λh=>h.out,λh=>⟨h⟩⟩
structure SemU (P:Program) (s:Sem Unit) (k:Value->World->Prop) (pn:List PanicEntry->World->Prop) (w:World):Prop where
 out:match s.run P w with | .ok _ w'=>k undef w' | .halt (.panic v) w'=>pn [{ v,recovered:=false }] w' | .halt _ _=>False
theorem zGS(P:Program)(s:Sem Unit)(k:Value->World->Prop)(b:List PanicEntry->World->Prop)(w:World):SemU P s k b w↔(match s.run P w with | .ok _ w'=>k undef w' | .halt (.panic v) w'=>b [{ v,recovered:=false }] w' | .halt _ _=>False):=⟨λh=>h.out,λh=>⟨h⟩⟩
structure RoundS (P:Program) (l:Nat) (f:FuncId) (tmps:Array Value) (assign body:Code) (k:Value->World->Prop) (pn:List PanicEntry->World->Prop) (w:World):Prop where
 out:RoundIn Fence.wide 0 P l f tmps assign body w (RetP k pn)
structure NextS (P:Program) (s:Sem Next) (k:Value->World->Prop) (pn:List PanicEntry->World->Prop) (w:World):Prop where
 out:match s.run P w with
 |.ok (.value v) w'=>k v w'
 |.ok .skip w'=>k undef w'
 |.ok (.enter f args) w'=>CallS P f args k pn w'
 |.ok (.round l f tmps assign body) w'=>RoundS P l f tmps assign body k pn w'
 |.halt (.panic v) w'=>pn [{ v,recovered:=false }] w'
 |_=>False
theorem zBi(P:Program)(s:Sem Next)(k:Value->World->Prop)(b:List PanicEntry->World->Prop)(w:World):NextS P s k b w↔(match s.run P w with
 |.ok (.value v) w'=>k v w'
 |.ok .skip w'=>k undef w'
 |.ok (.enter f args) w'=>CallS P f args k b w'
 |.ok (.round l f tmps assign body) w'=>RoundS P l f tmps assign body k b w'
 |.halt (.panic v) w'=>b [{ v,recovered:=false }] w'
 |_=>False):=⟨λh=>h.out,λh=>⟨h⟩⟩
structure ArS (kd:IntKind) (x:Int) (k:Value->World->Prop) (w:World):Prop where
 out:k (.int kd (kd.wrap x)) w
theorem zDO(kd:IntKind)(x:Int)(k:Value->World->Prop)(w:World):ArS kd x k w↔(k (.int kd (kd.wrap x)) w):=⟨λh=>h.out,λh=>⟨h⟩⟩
structure DivS (kd:IntKind) (x y:Int) (k:Value->World->Prop) (w:World):Prop where
 out:y≠0/\k (.int kd (kd.wrap (x.tdiv y))) w
theorem zEb(kd:IntKind)(x y:Int)(k:Value->World->Prop)(w:World):DivS kd x y k w↔(y≠0/\k (.int kd (kd.wrap (x.tdiv y))) w):=⟨λh=>h.out,λh=>⟨h⟩⟩
structure RemS (kd:IntKind) (x y:Int) (k:Value->World->Prop) (w:World):Prop where
 out:y≠0/\k (.int kd (x.tmod y)) w
theorem zC0(kd:IntKind)(x y:Int)(k:Value->World->Prop)(w:World):RemS kd x y k w↔(y≠0/\k (.int kd (x.tmod y)) w):=⟨λh=>h.out,λh=>⟨h⟩⟩
def kindEq:IntKind->IntKind->Bool
 |.i8,.i8 | .i16,.i16 | .i32,.i32 | .i64,.i64 | .u8,.u8 | .u16,.u16 | .u32,.u32 | .u64,.u64=>true
 |_,_=>false
def cmpS (op:BinOp) (m n:Int) (k:Value->World->Prop) (alt:Prop) (w:World):Prop:=
 match op with
 |.eql=>IteC (m=n) (k (.bool true) w) (k (.bool false) w)
 |.neq=>IteC (m≠n) (k (.bool true) w) (k (.bool false) w)
 |.lss=>IteC (m<n) (k (.bool true) w) (k (.bool false) w)
 |.leq=>IteC (m<=n) (k (.bool true) w) (k (.bool false) w)
 |.gtr=>IteC (n<m) (k (.bool true) w) (k (.bool false) w)
 |.geq=>IteC (n<=m) (k (.bool true) w) (k (.bool false) w)
 |_=>alt
def binS (P:Program) (op:BinOp) (t:TypeId) (a b:Operand) (x y:Value) (k:Value->World->Prop) (pn:List PanicEntry->World->Prop) (w:World):Prop:=
 match x,y with
 |.int kx m,.int ky n =>
  bif kindEq kx ky then
   match op with
   |.add=>ArS kx (m+n) k w
   |.sub=>ArS kx (m - n) k w
   |.mul=>ArS kx (m*n) k w
   |.quo=>DivS kx m n k w
   |.rem=>RemS kx m n k w
   |op=>cmpS op m n k (SemV P (do eqGuard op t a b (.int kx m) (.int ky n);binOp op t (.int kx m) (.int ky n)) k pn w) w
  else False
 |x,y=>SemV P (do eqGuard op t a b x y;binOp op t x y) k pn w
def unS (P:Program) (op:UnOp) (x:Value) (k:Value->World->Prop) (pn:List PanicEntry->World->Prop) (w:World):Prop:=
 match op,x with
 |.not,.bool b=>k (.bool (!b)) w
 |op,x=>SemV P (Op.unary op x) k pn w
def fnS (P:Program) (f:Value) (args:List Value) (alt:Prop) (k:Value->World->Prop) (pn:List PanicEntry->World->Prop) (w:World):Prop:=
 match f with
 |.func (.func g) first captured=>CallS P g (first.toList++args++captured.toList).toArray k pn w
 |_=>alt
def lk {α:Type}:List (Nat×α)->Nat->α->α
 |[],_,d=>d
 |(k,v)::r,t,d=>bif Nat.beq k t then v else lk r t d
def nth {α:Type}:List α->Nat->Option α
 |[],_=>none
 |x::_,0=>some x
 |_::r,i+1=>nth r i
def lenS (T:Tab) (t:TypeId) (x:Value) (alt:Prop) (k:Value->World->Prop) (w:World):Prop:=
 match x with
 |.slice _ n _=>match lk T.kinds t 0 with|1=>k (.int .i64 n) w|_=>False
 |.string s=>match lk T.kinds t 0 with|2=>k (.int .i64 s.size) w|_=>False
 |_=>alt
def fieldS (T:Tab) (s f:Nat) (x:Value) (alt:Prop) (k:Value->World->Prop) (w:World):Prop:=
 match x with
 |.pointer (some ⟨b,o,none⟩)=>match nth (lk T.offs s []) f with
  |some (some d)=>k (.pointer (some ⟨b,o+d,none⟩)) w
  |_=>alt
 |_=>alt
def pickS (c a b:Value) (k:Value->World->Prop) (w:World):Prop:=
 match c with
 |.bool c=>match c with|true=>k a w|false=>k b w
 |_=>False
def nilS (x:Value) (alt:Prop) (k:Value->World->Prop) (w:World):Prop:=
 match x with
 |.pointer (some a)=>k (.pointer (some a)) w
 |_=>alt
def extS (t:Value) (i:Nat) (k:Value->World->Prop) (w:World):Prop:=
 match t with
 |.tuple vs=>match nth vs.toList i with|some v=>k v w|none=>False
 |_=>False
def evL (F:Nat->Value):List Operand->List Value
 |[]=>[]
 |x::r=>ev F x::evL F r
def evP (F:Nat->Value):List (Nat×Operand)->List (Nat×Value)
 |[]=>[]
 |(i,x)::r=>(i,ev F x)::evP F r
def callS (P:Program) (T:Tab) (o:Oper) (c:Call) (F:Nat->Value) (k:Value->World->Prop) (pn:List PanicEntry->World->Prop) (w:World):Prop:=
 match c.callee with
 |.value f=>fnS P (ev F f) (evL F c.args.toList) (NextS P (execOp (ev F) o) k pn w) k pn w
 |.invoke _ _=>NextS P (execOp (ev F) o) k pn w
 |.builtin b=>match b with
  |.len=>match c.args.toList,c.argTypes.toList with
   |[x],[t]=>lenS T t (ev F x) (NextS P (execOp (ev F) o) k pn w) k w
   |_,_=>False
  |.append=>SemV P (Builtin.append_ c.argTypes o.type (evL F c.args.toList).toArray) k pn w
  |.copy=>SemV P (Builtin.copy_ c.argTypes o.type (evL F c.args.toList).toArray) k pn w
  |.max=>SemV P (Builtin.max_ c.argTypes o.type (evL F c.args.toList).toArray) k pn w
  |.min=>SemV P (Builtin.min_ c.argTypes o.type (evL F c.args.toList).toArray) k pn w
  |.cap=>SemV P (Builtin.cap_ c.argTypes o.type (evL F c.args.toList).toArray) k pn w
  |.delete=>SemV P (Builtin.delete_ c.argTypes o.type (evL F c.args.toList).toArray) k pn w
  |_=>NextS P (execOp (ev F) o) k pn w
def opS (P:Program) (T:Tab) (o:Oper) (F:Nat->Value) (k:Value->World->Prop) (pn:List PanicEntry->World->Prop) (w:World):Prop:=
 match o.op with
 |.move x | .assign x=>k (ev F x) w
 |.pick c a b=>pickS (ev F c) (ev F a) (ev F b) k w
 |.binOp op t x y _=>binS P op t x y (ev F x) (ev F y) k pn w
 |.unOp op _ x=>unS P op (ev F x) k pn w
 |.fieldAddr s x f=>fieldS T s f (ev F x) (SemV P (Instr.fieldAt s (ev F x) f) k pn w) k w
 |.extract t i=>extS (ev F t) i k w
 |.makeFunc fn first captured=>k (.func fn (evL F first.toList).toArray (evL F captured.toList).toArray) w
 |.call c=>callS P T o c F k pn w
 |.build t parts=>SemV P (Instr.build t (evP F parts.toList).toArray) k pn w
 |.buildSlice t len parts=>SemV P (Instr.buildSlice t len (evP F parts.toList).toArray) k pn w
 |.alloc elem=>SemV P (Instr.alloc elem true (.tuple #[])) k pn w
 |.box elem x=>SemV P (Instr.box elem (ev F x)) k pn w
 |.load t a=>SemV P (Instr.loadAt t (ev F a)) k pn w
 |.store t a x=>SemU P (Instr.storeAt t (ev F a) (ev F x)) k pn w
 |.indexAddr t x ix=>SemV P (Instr.indexAt t (ev F x) (ev F ix)) k pn w
 |.index t x ix=>SemV P (Instr.index t (ev F x) (ev F ix)) k pn w
 |.slice t x lo hi mx=>SemV P (Instr.sliceAt t (ev F x) (lo.map (ev F)) (hi.map (ev F)) (mx.map (ev F))) k pn w
 |.makeSlice t l c=>SemV P (Instr.makeSlice t (ev F l) (ev F c)) k pn w
 |.lookup t x ix ok=>SemV P (Instr.lookup t (ev F x) (ev F ix) ok) k pn w
 |.mapUpdate t m kk x=>SemU P (Instr.mapUpdate t (ev F m) (ev F kk) (ev F x)) k pn w
 |.convert src dst x=>SemV P (convert src dst (ev F x)) k pn w
 |.field t x f=>SemV P (Instr.field t (ev F x) f) k pn w
 |.makeInterface t x=>SemV P (Instr.makeInterface t (ev F x)) k pn w
 |.typeAssert x t u ok=>SemV P (Instr.typeAssert (ev F x) t u ok) k pn w
 |.panic x=>SemV P (Instr.panic (ev F x)) k pn w
 |.nilCheck x=>nilS (ev F x) (NextS P (execOp (ev F) o) k pn w) k w
 |.defer _=>False
 |_=>NextS P (execOp (ev F) o) k pn w
def putS (n:Nat) (F:Nat->Value) (d:Option Nat) (v:Value) (k:(Nat->Value)->Prop):Prop:=
 match d with
 |none=>k F
 |some d=>match Nat.blt d n with|true=>k (upd F d v)|false=>False
def defS (T:Tab) (o:Oper) (c:Call) (F:Nat->Value) (k:(Nat->Value)->Prop):Prop:=
 match T.round,o.guard,o.dst,c.callee with
 |false,none,none,.value f=>match ev F f with
  |.func fn first cap=>k (upd F 4294967296 (consD (.agg (.func fn first cap::evL F c.args.toList).toArray) (F 4294967296)))
  |_=>False
 |_,_,_,_=>False
def opsStep (P : Program) (T : Tab) (n : Nat) (all : List Oper) (o : Oper) (ih : (Nat -> Value) -> ((Nat -> Value) -> World -> Prop) -> ((Nat -> Value) -> List PanicEntry -> World -> Prop) -> World -> Prop)
    (F : Nat -> Value) (k : (Nat -> Value) -> World -> Prop) (pn : (Nat -> Value) -> List PanicEntry -> World -> Prop) (w : World) : Prop :=
  match o.op with
  | .defer c => defS T o c F λF' => ih F' k pn w
  | _ => match o.guard with
    | none => opS P T o F (λv w' => putS n F o.dst v λF' => ih F' k pn w') (pn F) w
    | some (j, want) => match nth all j with
      | some g => match g.dst with
        | some d => match F d with
          | .bool b => match Nat.blt d n with
            | true => match want with
              | true => condS b (opS P T o (upd F d (.bool true)) (λv w' => putS n (upd F d (.bool true)) o.dst v λF' => ih F' k pn w') (pn (upd F d (.bool true))) w)
                  (putS n (upd F d (.bool false)) o.dst undef λF' => ih F' k pn w)
              | false => condS b (putS n (upd F d (.bool true)) o.dst undef λF' => ih F' k pn w)
                  (opS P T o (upd F d (.bool false)) (λv w' => putS n (upd F d (.bool false)) o.dst v λF' => ih F' k pn w') (pn (upd F d (.bool false))) w)
            | false => False
          | .tuple _ => putS n F o.dst undef λF' => ih F' k pn w
          | _ => False
        | none => False
      | none => False
def opsS (P:Program) (T:Tab) (n:Nat) (all:List Oper) (l:List Oper):(Nat->Value)->((Nat->Value)->World->Prop)->((Nat->Value)->List PanicEntry->World->Prop)->World->Prop:=
 List.rec (motive:=λ_=>(Nat->Value)->((Nat->Value)->World->Prop)->((Nat->Value)->List PanicEntry->World->Prop)->World->Prop) (λF k _ w=>k F w) (λo _ ih=>opsStep P T n all o ih) l
theorem zDy(P:Program)(T:Tab)(n:Nat)(b:List Oper)(o:Oper)(r:List Oper)(F:Nat->Value)(k:(Nat->Value)->World->Prop)(c:(Nat->Value)->List PanicEntry->World->Prop)(w:World):
  opsS P T n b (o::r) F k c w=opsStep P T n b o (opsS P T n b r) F k c w:=rfl
def S (P:Program) (T:Tab) (n:Nat) (c:Code):KS->(Nat->Value)->World->Prop:=
 Code.rec (motive:=λ_=>KS->(Nat->Value)->World->Prop)
  (λQ F w=>Q.nrm F w)
  (λi ops draw Q F w=>match draw with
   |false=>opsS P T n ops.toList ops.toList F Q.nrm Q.pan w
   |true=>DeepS P T n (.region i ops true) Q F w)
  (λ_ _ iha ihb Q F w=>iha { nrm:=λF' w'=>ihb Q F' w',ext:=Q.ext,ret:=Q.ret,pan:=Q.pan } F w)
  (λc _ _ iha ihb Q F w=>match ev F c with
   |.bool t=>condS t (iha Q F w) (ihb Q F w)
   |_=>False)
  (λi _ ih Q F w=>ih { nrm:=Q.nrm,ext:=λj F' w'=>match Nat.beq j i with|true=>Q.nrm F' w'|false=>Q.ext j F' w',ret:=Q.ret,pan:=Q.pan } F w)
  (λc _ Q F w=>DeepS P T n (.loop c) Q F w)
  (λf ps as b _ _ Q F w=>DeepS P T n (.rangeFunc f ps as b) Q F w)
  (λi Q F w=>Q.ext i F w)
  (λ_ ih Q F w=>ih Q F w)
  (λ_ Q F w=>Q.nrm F w)
  (λl Q F w=>DeepS P T n (.goto l) Q F w)
  (λQ F w=>Q.ret F w)
  (λy Q F w=>DeepS P T n (.refuse y) Q F w) c
section
variable (P:Program) (T:Tab) (n:Nat) (Q:KS) (F:Nat->Value) (w:World)
theorem S_skip:S P T n .skip Q F w=Q.nrm F w:=rfl
theorem zAN(l:Nat):S P T n (.label l) Q F w=Q.nrm F w:=rfl
theorem S_ret:S P T n .ret Q F w=Q.ret F w:=rfl
theorem S_exit(i:Nat):S P T n (.exit i) Q F w=Q.ext i F w:=rfl
theorem S_seq(a b:Code):S P T n (.seq a b) Q F w=S P T n a { Q with nrm:=λc w'=>S P T n b Q c w' } F w:=rfl
theorem S_cond(c:Operand)(a b:Code):S P T n (.cond c a b) Q F w=match ev F c with
  |.bool t=>condS t (S P T n a Q F w) (S P T n b Q F w)
  |_=>False:=rfl
theorem zAM(i:Nat)(c:Code):S P T n (.block i c) Q F w=S P T n c { Q with ext:=λj b w'=>match Nat.beq j i with|true=>Q.nrm b w'|false=>Q.ext j b w' } F w:=rfl
theorem zAO(c:Code):S P T n (.scope c) Q F w=S P T n c Q F w:=rfl
theorem zAz(i:Nat)(ops:Array Oper):S P T n (.region i ops false) Q F w=opsS P T n ops.toList ops.toList F Q.nrm Q.pan w:=rfl
theorem S_draw(i:Nat)(ops:Array Oper):S P T n (.region i ops true) Q F w=DeepS P T n (.region i ops true) Q F w:=rfl
theorem S_loop(c:Code):S P T n (.loop c) Q F w=DeepS P T n (.loop c) Q F w:=rfl
theorem zAi(f:Operand)(ps:Array Tmp)(a b:Code):S P T n (.rangeFunc f ps a b) Q F w=DeepS P T n (.rangeFunc f ps a b) Q F w:=rfl
theorem S_goto(l:Nat):S P T n (.goto l) Q F w=DeepS P T n (.goto l) Q F w:=rfl
theorem zAy(y:String):S P T n (.refuse y) Q F w=DeepS P T n (.refuse y) Q F w:=rfl
end
end Go.W
set_option linter.unusedSimpArgs false
namespace Go.W
open Go
variable {B N i j k m n:Nat} {D:Nat -> Prop} {P:Program} {a a':Option Addr} {u u' w':World}
def upR (P:Program) (k:Value->World->Prop) (pn:List PanicEntry->World->Prop):Result Next->Prop
 |.ok (.value v) w'=>k v w'
 |.ok .skip w'=>k undef w'
 |.ok (.enter f args) w'=>Calls P f args w' (RetP k pn)
 |.ok (.round l f tmps assign body) w'=>RoundIn Fence.wide 0 P l f tmps assign body w' (RetP k pn)
 |.halt (.panic v) w'=>pn [{ v,recovered:=false }] w'
 |_=>False
theorem zEg(r:Option Nat){f:FuncId}{args:Array Value}{w:World}{R:Ending->World->Prop}(h:Calls P f args w R):CallsIn (fw r) n P f args w R:=callsIn_wide (n:=n).2 h
theorem zQm(r:Option Nat)(n:Nat):(fw r).room n:=λ_ h=>by simp [fw,Fence.wide] at h
theorem zMn{md:Option Nat}{o:Oper}{a:Act}{next:Act->World->Prop}{Q:Exit->Act->World->Prop}{k:Value->World->Prop}
  {g:List PanicEntry->World->Prop}{r:Result Next}(h:upR P k g r)(d:∀v w,k v w->next (a.put o.dst v) w)
  (p:∀c w,g c w->Q (.panic c) a w):o.uponIn (fw md) 0 P a next Q r:=by
 cases r with
 |ok x w' =>
  cases x <;> simp only [upR] at h <;> simp only [Oper.uponIn]
  case value v=>exact d _ _ h
  case skip=>exact d _ _ h
  case enter f args =>
   refine⟨λh=>by simp [fw,Fence.wide] at h,zEg md (h.mono ?_)⟩;intro e q b
   cases e with
   |returned v=>exact d _ _ b
   |panicked c=>exact p _ _ b
   |outgrown=>exact b.elim
  case round l f tmps assign body =>
   refine⟨λh=>by simp [fw,Fence.wide] at h,?_⟩;have h:RoundIn (fw md) 0 P l f tmps assign body w' (RetP k g):=h;refine h.mono ?_;intro e q b
   cases e with
   |returned v=>exact d _ _ b
   |panicked c=>exact p _ _ b
   |outgrown=>exact b.elim
 |halt x w' =>
  cases x <;> simp only [upR] at h <;> simp only [Oper.uponIn];exact p _ _ h
section
variable {P:Program} {k:Value->World->Prop} {pn:List PanicEntry->World->Prop} {w:World}
theorem upR_v{s:Sem Value}(h:SemV P s k pn w):upR P k pn ((do let x <-s;pure (Next.value x):Sem Next).run P w):=by
 rw [zC1] at h;rw [Qo]
 cases b:s.run P w with
 |ok v w'=>simp only [b] at h;simpa [upR] using h
 |halt x w'=>simp only [b] at h;cases x <;> simp_all [upR]
theorem upR_u{s:Sem Unit}(h:SemU P s k pn w):upR P k pn ((do s;pure Next.skip:Sem Next).run P w):=by
 rw [zGS] at h;rw [Qo]
 cases b:s.run P w with
 |ok v w'=>simp only [b] at h;simpa [upR] using h
 |halt x w'=>simp only [b] at h;cases x <;> simp_all [upR]
theorem zHp{s:Sem Next}(h:NextS P s k pn w):upR P k pn (s.run P w):=by
 rw [zBi] at h
 cases b:s.run P w with
 |ok v w' =>
  simp only [b] at h;cases v <;> simp only [upR] <;> simp only at h <;> try exact h
  ·rw [zBQ] at h;exact h.2
  ·exact h.out
 |halt x w'=>simp only [b] at h;cases x <;> simp_all [upR]
theorem zJc:∀{a b:IntKind},kindEq a b=true->a=b:=by
 intro a b h;cases a <;> cases b <;> simp_all [kindEq]
theorem evL_eq(F:Nat->Value)(l:List Operand):evL F l=l.map (ev F):=by
 induction l with
 |nil=>rfl
 |cons x r b=>simp [evL,b]
theorem zBe(F:Nat->Value)(l:Array Operand):(evL F l.toList).toArray=l.map (ev F):=by
 rw [evL_eq,<-XK,Jz]
theorem zMC(F:Nat->Value)(l:Array (Nat×Operand)):(evP F l.toList).toArray=l.map (λ(i,x)=>(i,ev F x)):=by
 have:∀m:List (Nat×Operand),evP F m=m.map (λ(i,x)=>(i,ev F x)):=by
  intro m;induction m with
  |nil=>rfl
  |cons x r b=>obtain⟨i,y⟩:=x;simp [evP,b]
 rw [this,<-XK,Jz]
theorem nth_eq{α:Type}(l:List α)(i:Nat):nth l i=l[i]?:=by
 induction l generalizing i with
 |nil=>simp [nth]
 |cons x r b=>cases i <;> simp [nth,b]
theorem run_v(s:Sem Value)(w:World):(do let x <-s;pure (Next.value x):Sem Next).run P w=(s.run P w).andThen λv w'=>.ok (.value v) w':=by
 rw [Qo];rfl
theorem zGp(b:BinOp)(t:TypeId)(x y:Operand)(c d:IntKind)(m n:Int)(w:World):
  (eqGuard b t x y (.int c m) (.int d n)).run P w=.ok () w:=by
 cases b <;> rfl
theorem zQG{d:BinOp}{t:TypeId}{x y:Operand}{a b:Value}(h:binS P d t x y a b k pn w):
  upR P k pn ((do let v <-(do eqGuard d t x y a b;binOp d t a b:Sem Value);pure (Next.value v):Sem Next).run P w):=by
 by_cases hi:(∃c m,a=.int c m)/\(∃g n,b=.int g n)
 ·obtain⟨⟨c,m,rfl⟩,⟨g,n,rfl⟩⟩:=hi;simp only [binS] at h
  cases o:kindEq c g with
  |false=>simp only [o,cond_false] at h
  |true =>
   simp only [o,cond_true] at h;obtain rfl:=zJc o
   have e:∀v,(binOp d t (.int c m) (.int c n)).run P w=.ok v w->k v w->upR P k pn ((do let v <-(do eqGuard d t x y (.int c m) (.int c n);binOp d t (.int c m) (.int c n):Sem Value);pure (Next.value v):Sem Next).run P w):=by
    intro v q p;rw [run_v,Qo,zGp];simp only [Qh,q,upR];exact p
   cases d <;> simp only [cmpS,zDO,zEb,zC0] at h <;> first
    |exact upR_v h
    |(refine e _ ?_ h;simp [binOp,Op.intArith];done)
    |(obtain⟨h0,r⟩:=h;refine e _ ?_ r;simp [binOp,Op.intDiv,h0];done)
    |(rcases Xw _ with l|l;(refine e (.bool true) ?_ (h.t l);simp [binOp,Op.intCmp];first|exact l|omega);(refine e (.bool false) ?_ (h.f l);simp [binOp,Op.intCmp];first|exact l|omega))
 ·have:binS P d t x y a b k pn w=SemV P (do eqGuard d t x y a b;binOp d t a b) k pn w:=by
   unfold binS;split
   ·rename_i c m g n;exact absurd ⟨⟨c,m,rfl⟩,⟨g,n,rfl⟩⟩ hi
   ·rfl
  rw [this] at h;exact upR_v h
end
def Tab.chkK (P:Program) (e:Nat×Nat):Bool:=
 match e.2 with
 |1=>match P.underlying e.1 with|some (.slice _)=>true|_=>false
 |2=>match P.underlying e.1 with|some .string=>true|_=>false
 |_=>true
def Tab.chkF (P:Program) (fs:List Field):List (Option Nat)->Bool
 |[]=>true
 |o::r=>match fs with
  |[]=>false
  |f::fs'=>(match o with
   |none=>true
   |some d=>Nat.beq f.offset d && (match P.info? f.type with|some i=>!Nat.beq i.size 0|none=>false)) && Tab.chkF P fs' r
def Tab.chkO (P:Program) (e:Nat×List (Option Nat)):Bool:=
 match P.underlying e.1 with
 |some (.struct fs)=>Tab.chkF P fs.toList e.2
 |_=>false
def Tab.ok (P:Program) (T:Tab):Bool:=T.kinds.all (Tab.chkK P) && T.offs.all (Tab.chkO P)
theorem lk_mem{α : Type}(l : List (Nat × α))(t : Nat)(d : α) : lk l t d = d \/ (t, lk l t d) ∈ l := by
  induction l with
  | nil => exact .inl rfl
  | cons x r c =>
    obtain ⟨j, v⟩ := x;unfold lk
    cases h : Nat.beq j t with
    | true => rw [QD h]; right; simp
    | false => rcases c with b | b
               · left; simpa using b
               · right; simp only [cond_false]; exact QF _ b
theorem Tab.slice{T:Tab}(c:T.ok P=true){t:Nat}(h:lk T.kinds t 0=1):∃e,P.underlying t=some (.slice e):=by
 simp only [Tab.ok,Qz,XL] at c;rcases lk_mem T.kinds t 0 with b|b
 ·rw [h] at b;cases b
 ·rw [h] at b;have:=c.1 _ b;simp only [Tab.chkK] at this;split at this
  ·exact⟨_,‹_›⟩
  ·cases this
theorem Tab.string{T:Tab}(c:T.ok P=true){t:Nat}(h:lk T.kinds t 0=2):P.underlying t=some .string:=by
 simp only [Tab.ok,Qz,XL] at c;rcases lk_mem T.kinds t 0 with b|b
 ·rw [h] at b;cases b
 ·rw [h] at b;have:=c.1 _ b;simp only [Tab.chkK] at this;split at this
  ·assumption
  ·cases this
theorem Tab.chkF_get:∀(fs:List Field) (l:List (Option Nat)) (i d:Nat),Tab.chkF P fs l=true->l[i]? = some (some d) ->
  ∃f,fs[i]? = some f/\f.offset=d/\∃j,P.info? f.type=some j/\j.size≠0
 |_,[],i,d,_,h=>by simp at h
 |[],o::r,i,d,h,_=>by simp [Tab.chkF] at h
 |f::fs,o::r,0,d,h,b=>by
  simp only [List.getElem?_cons_zero,JK] at b;subst b;simp only [Tab.chkF,Qz] at h;obtain⟨⟨e,c⟩,_⟩:=h;refine⟨f,rfl,QD e,?_⟩;split at c
  ·rename_i j g;exact⟨j,g,by intro h0;simp [h0] at c⟩
  ·cases c
 |f::fs,o::r,i+1,d,h,b=>by
  simp only [Tab.chkF,Qz] at h;simpa using Tab.chkF_get fs r i d h.2 (by simpa using b)
theorem Tab.field{T:Tab}(g:T.ok P=true){s f d:Nat}(h:nth (lk T.offs s []) f=some (some d)):
  ∃fs b,P.underlying s=some (.struct fs)/\fs[f]? = some b/\b.offset=d/\∃j,P.info? b.type=some j/\j.size≠0:=by
 simp only [Tab.ok,Qz,XL] at g;rw [nth_eq] at h;rcases lk_mem T.offs s [] with c|c
 ·rw [c] at h;simp at h
 ·have:=g.2 _ c;simp only [Tab.chkO] at this;split at this
  ·rename_i fs e;obtain⟨b,l,o,p⟩:=Tab.chkF_get _ _ _ _ this h;exact⟨fs,b,e,by simpa using l,o,p⟩
  ·cases this
section
variable {P:Program} {T:Tab} {k:Value->World->Prop} {pn:List PanicEntry->World->Prop} {w:World}
theorem zJq(c:T.ok P=true){s f d b o:Nat}(h:nth (lk T.offs s []) f=some (some d))(w:World):
  (Instr.fieldAt s (.pointer (some ⟨b,o,none⟩)) f).run P w=.ok (.pointer (some ⟨b,o+d,none⟩)) w:=by
 obtain⟨fs,r,e,g,l,j,p,q⟩:=Tab.field c h
 have:(⟨b,o,none⟩:Addr).add d=⟨b,o+d,none⟩:=by
  unfold Addr.add;split <;> simp_all
 simp [Instr.fieldAt,underlying,e,g,Instr.sureAddr,fieldPlace,sizeOf,typeInfo,p,q,l,this]
theorem zE3{t ty:TypeId}{e:TypeId}(h:P.underlying t=some (.slice e))(a:Option Addr)(n c:Nat)(w:World):
  (Builtin.len_ #[t] ty #[.slice a n c]).run P w=.ok (.int .i64 n) w:=by
 simp [Builtin.len_,underlying,h,goInt]
theorem zD2{t ty:TypeId}(h:P.underlying t=some .string)(s:ByteArray)(w:World):
  (Builtin.len_ #[t] ty #[.string s]).run P w=.ok (.int .i64 s.size) w:=by
 simp [Builtin.len_,underlying,h,goInt]
theorem zAW{f:FuncId}{args:Array Value}(h:callable P f)(w:World):(callFunc f args).run P w=.ok (.enter f args) w:=by
 obtain⟨b,c,d,e⟩:=h;have g:b.body≠none:=by intro l;simp [l] at d
 have o : b.name ≠ "runtime.NumGoroutine" := by simpa using e
 simp [callFunc,c,g,o]
theorem zQe(C : T.ok P = true){o : Oper}{F : Nat -> Value}(h : opS P T o F k pn w) : upR P k pn ((execOp (ev F) o).run P w) := by
  unfold opS at h;unfold execOp;split at h <;> rename_i E <;> simp only [E]
  · simpa [upR] using h
  · simpa [upR] using h
  · unfold pickS at h
    split at h
    · rename_i c G
      simp only [G, asBool];cases c <;> simpa [upR] using h
    · exact h.elim
  · exact zQG h
  · unfold unS at h
    split at h
    · rename_i b p
      simpa [p, Op.unary, upR] using h
    · exact upR_v h
  · unfold fieldS at h
    split at h
    · rename_i b o p
      split at h
      · rename_i d hd
        rw [run_v, p, zJq C hd];simpa [upR] using h
      · exact upR_v (by rw [p] at h; rw [p]; exact h)
    · exact upR_v h
  · rename_i t i
    unfold extS at h;split at h
    · rename_i vs y
      rw [nth_eq] at h;split at h
      · rename_i v H
        have : vs[i]? = some v := by simpa using H
        simp only [y, Instr.extract, this];simpa [upR] using h
      · exact h.elim
    · exact h.elim
  · rw [zBe, zBe] at h
    simpa [Instr.makeFunc, upR] using h
  · rename_i c
    have q : NextS P (execOp (ev F) o) k pn w -> upR P k pn ((do let d <- resolve (ev F) c o.type; invoke d.target d.args : Sem Next).run P w) := by
      intro h;have := zHp h;simpa [execOp, E] using this
    have I : ∀ b s, c.callee = .builtin b -> (∀ r, builtin b c.argTypes o.type r (c.args.map (ev F)) = (do let x <- s; pure (Next.value x))) ->
        upR P k pn ((do let x <- s; pure (Next.value x) : Sem Next).run P w) -> upR P k pn ((do let d <- resolve (ev F) c o.type; invoke d.target d.args : Sem Next).run P w) := by
      intro b s G p h
      have : (do let d <- resolve (ev F) c o.type; invoke d.target d.args : Sem Next) = (do let x <- s; pure (Next.value x)) := by
        simp only [resolve, G, pure_bind, invoke];exact p _
      rw [this]; exact h
    unfold callS at h;split at h
    · rename_i f L
      unfold fnS at h;split at h
      · rename_i g first l M
        rw [zBQ] at h
        have e : (do let d <- resolve (ev F) c o.type; invoke d.target d.args : Sem Next) = callFunc g (first ++ c.args.map (ev F) ++ l) := by
          simp only [resolve, L, Deferred.ofValue, M, pure_bind, invoke]
        rw [e, zAW h.1]
        have O : (first.toList ++ evL F c.args.toList ++ l.toList).toArray = first ++ c.args.map (ev F) ++ l := by
          rw [evL_eq]; simp
        rw [O] at h;exact h.2
      · exact q h
    · exact q h
    · rename_i b p
      split at h
      · split at h
        · rename_i x t Q R
          have z : c.args = #[x] := by rw [<- Jz (xs := c.args), Q]
          have A : c.argTypes = #[t] := by rw [<- Jz (xs := c.argTypes), R]
          unfold lenS at h;split at h
          · rename_i a n U y
            split at h
            · rename_i J
              obtain ⟨e, K⟩ := Tab.slice C J;refine I _ (Builtin.len_ c.argTypes o.type (c.args.map (ev F))) p (λ_ => rfl) ?_;rw [run_v, z, A]; simp only [Xi, QS, JP, y, zE3 K];exact h
            · exact h.elim
          · rename_i s y
            split at h
            · rename_i J
              have K := Tab.string C J;refine I _ (Builtin.len_ c.argTypes o.type (c.args.map (ev F))) p (λ_ => rfl) ?_;rw [run_v, z, A]; simp only [Xi, QS, JP, y, zD2 K];exact h
            · exact h.elim
          · exact q h
        · exact h.elim
      all_goals first
        | exact q h
        | (rw [zBe] at h; exact I _ _ p (λ_ => rfl) (upR_v h))
  all_goals first
    | exact upR_v h
    | (rw [zMC] at h; exact upR_v h)
    | exact upR_u h
    | exact h.elim
    | (unfold nilS at h
       split at h
       · rename_i a S
         simp only [S];simpa [upR] using h
       · have := zHp h
         unfold execOp at this;simpa only [E] using this)
    | (have := zHp h; unfold execOp at this; simpa only using this)
end
theorem zEO(F:Nat->Value)(d:Nat):upd F d (F d)=F:=by
 funext t;unfold upd
 cases h:Nat.beq t d with
 |true=>simp [QD h]
 |false=>simp
section
variable {P:Program} {T:Tab} {n:Nat}
theorem Rel.eval{F:Nat->Value}{a:Act}(h:Rel n F a):a.eval=ev F:=by
 funext x;cases x <;> simp only [Act.eval,ev];rename_i t;split
 ·rename_i b;have c:=QD b;have:a.tmps[t]? = none:=Jn (by rw [h.size,c];exact h.le);simp [Jr,this]
 ·rename_i b;exact h.get t λe=>by subst e;simp at b
theorem Rel.put{F:Nat->Value}{a:Act}(h:Rel n F a){d:Option Nat}{v:Value}{k:(Nat->Value)->Prop}(b:putS n F d v k):
  ∃g,Rel n g (a.put d v)/\agree (isD d) F g/\k g:=by
 cases d with
 |none=>exact⟨F,h,λ_ _=>rfl,b⟩
 |some d =>
  simp only [putS] at b;split at b
  ·rename_i c;have hlt:d<n:=by simpa [Xe] using c
   refine⟨upd F d v,⟨?_,h.le,?_,?_⟩,?_,b⟩
   ·simp [Act.put,h.size]
   ·have l:Nat.beq 4294967296 d=false:=by
     cases p:Nat.beq 4294967296 d with
     |false=>rfl
     |true=>have:=QD p;have:=h.le;omega
    show a.defers=decD (upd F d v 4294967296);unfold upd;rw [l];exact h.defers
   ·intro t f;have q:=h.size;have:=h.get t f;unfold upd;simp only [Act.put,Jr,V1] at this ⊢
    cases c:Nat.beq t d with
    |true=>rw [QD c];simp [q,hlt]
    |false =>
     have:d≠t:=λe=>by rw [e] at c;simp at c
     simpa [this] using h.get t f
   ·intro t o;simp only [isD] at o;unfold upd;rw [o];rfl
  ·exact b.elim
theorem agree.trans{d b:Nat->Bool}{A B C:Nat->Value}(h:agree d A B)(e:agree b B C):agree (λt=>d t || b t) A C:=by
 intro t c;simp only [QG] at c;rw [e t c.2,h t c.1]
theorem agree.mono{c b:Nat->Bool}{A B:Nat->Value}(h:agree c A B)(d:∀t,b t=false->c t=false):agree b A B:=
 λt e=>h t (d t e)
def LQ (n:Nat) (F0:Nat->Value) (ws:Nat->Bool) (k:(Nat->Value)->World->Prop) (pn:(Nat->Value)->List PanicEntry->World->Prop):Exit->Act->World->Prop:=λe a w =>
 match e with
 |.normal=>∃F',Rel n F' a/\agree ws F0 F'/\k F' w
 |.panic c=>∃F',Rel n F' a/\agree ws F0 F'/\pn F' c w
 |_=>False
theorem zLM{o:Oper}{F:Nat->Value}{k:Value->World->Prop}{b:List PanicEntry->World->Prop}{w:World}(h:opS P T o F k b w):∀c,o.op≠.defer c:=by
 intro c d;unfold opS at h;rw [d] at h;exact h
theorem opS_wp(d:T.ok P=true){md:Option Nat}{o:Oper}{F:Nat->Value}{k:Value->World->Prop}{b:List PanicEntry->World->Prop}{w:World}(h:opS P T o F k b w)
  {a:Act}(e:Rel n F a){next:Act->World->Prop}{Q:Exit->Act->World->Prop}
  (f:∀v w,k v w->next (a.put o.dst v) w)(g:∀c w,b c w->Q (.panic c) a w):o.wpIn (fw md) 0 P a w next Q:=by
 refine⟨λ_ _=>trivial,?_⟩;rw [Yd _ _ _ (zLM h),e.eval];exact zMn (zQe d h) f g
theorem zOX(b:Fn)(first cap:Array Value)(args:List Value):decD1 (.agg (.func b first cap::args).toArray)=some { target:=.fn b cap,args:=first++args.toArray }:=rfl
theorem zMP(hT : T.ok P = true){md : Option Nat}(Q : md.isSome = T.round)(p : Array Oper)(E : Nat -> Value)(k : (Nat -> Value) -> World -> Prop)(r : (Nat -> Value) -> List PanicEntry -> World -> Prop) :
    ∀ (l : List Oper) (q : Nat -> Bool) (F : Nat -> Value) (w : World) (a : Act), Rel n F a -> agree q E F -> opsS P T n p.toList l F k r w ->
      wpListIn (fw md) 0 P p (LQ n E (λt => q t || wrL l t) k r) l a w := by
  intro l
  induction l with
  | nil =>
    intro q F w a x h0 h;exact ⟨F, x, h0.mono (by simp [wrL]), h⟩
  | cons o rest ih =>
    intro q F w a x h0 h;have wide : ∀ {G : Nat -> Value}, agree q E G -> agree (λt => q t || wrL (o :: rest) t) E G := λh => h.mono (by intro t y; simp only [QG] at y; exact y.1)
    have step : ∀ {G : Nat -> Value} {v : Value} {w' : World}, Rel n G a -> agree q E G -> putS n G o.dst v (λs => opsS P T n p.toList rest s k r w') ->
        wpListIn (fw md) 0 P p (LQ n E (λt => q t || wrL (o :: rest) t) k r) rest (a.put o.dst v) w' := by
      intro G v w' R H hp;obtain ⟨s, h1, h2, h3⟩ := R.put hp;have := ih (λt => q t || wrO o t) s w' (a.put o.dst v) h1 ((H.trans h2).mono (by intro t y; simp only [wrO, QG] at y ⊢; exact ⟨y.1, y.2.1⟩)) h3
      have e : (λt => (q t || wrO o t) || wrL rest t) = (λt => q t || wrL (o :: rest) t) := by
        funext t; simp [wrL, Bool.or_assoc]
      rw [e] at this;exact this
    have S : ∀ {G : Nat -> Value}, Rel n G a -> agree q E G -> opS P T o G (λv w' => putS n G o.dst v λs => opsS P T n p.toList rest s k r w') (r G) w ->
        ∀ K : Act -> World -> Prop, (∀ a w, wpListIn (fw md) 0 P p (LQ n E (λt => q t || wrL (o :: rest) t) k r) rest a w -> K a w) -> o.wpIn (fw md) 0 P a w K (LQ n E (λt => q t || wrL (o :: rest) t) k r) := by
      intro G R H a0 K J;exact opS_wp hT a0 R (λv w' hv => J _ _ (step R H hv)) λc w' U => ⟨G, R, wide H, U⟩
    refine wpListIn_step λK J => ?_;by_cases I : ∃ c, o.op = .defer c
    · obtain ⟨c, U⟩ := I
      simp only [zDy, opsStep, U, defS] at h;split at h
      case h_2 => exact h.elim
      rename_i f hr L hd V;split at h
      case h_2 => exact h.elim
      rename_i W first cap hf
      have a1 : md = none := by cases md with | none => rfl | some _ => rw [hr] at Q; cases Q
      subst a1;simp only [Region.wanted, L, if_true];refine ⟨λ_ _ => trivial, ?_⟩
      have he : (Oper.semAt none a.eval o).run P w = .ok (.defer { target := .fn W cap, args := first ++ c.args.map (ev F) }) w := by
        rw [Oper.semAt_none, x.eval];unfold execOp;simp only [U, resolve, V, hf];rfl
      show Oper.uponIn (fw none) 0 P o a K _ ((Oper.semAt none a.eval o).run P w);rw [he];simp only [Oper.uponIn, hd];refine J _ _ ?_;let v : Value := .agg (.func W first cap :: evL F c.args.toList).toArray
      have X : decD (consD v (F 4294967296)) = { target := .fn W cap, args := first ++ c.args.map (ev F) } :: decD (F 4294967296) := by
        rw [<- zBe]; exact zDn v _ _ (zOX W first cap _)
      have Y : Rel n (upd F 4294967296 (consD v (F 4294967296))) ({ a with defers := { target := .fn W cap, args := first ++ c.args.map (ev F) } :: a.defers }.put none undef) := by
        refine ⟨x.size, x.le, ?_, λt y => ?_⟩
        · show _ :: a.defers = decD (upd F 4294967296 (consD v (F 4294967296)) 4294967296)
          unfold upd;rw [show Nat.beq 4294967296 4294967296 = true from rfl, cond_true, X, x.defers]
        · have O : Nat.beq t 4294967296 = false := by
            cases hq : Nat.beq t 4294967296 with
            | false => rfl
            | true => exact absurd (QD hq) y
          unfold upd; rw [O]; exact x.get t y
      have a2 : agree (λt => q t || wrO o t) E (upd F 4294967296 (consD v (F 4294967296))) := by
        intro t y;simp only [wrO, U, isDef, Bool.true_and, QG] at y;unfold upd; rw [y.2.2]; exact h0 t y.1
      have := ih (λt => q t || wrO o t) _ w _ Y a2 h
      have e : (λt => (q t || wrO o t) || wrL rest t) = (λt => q t || wrL (o :: rest) t) := by
        funext t; simp [wrL, Bool.or_assoc]
      rw [e] at this;exact this
    have z : opsStep P T n p.toList o (opsS P T n p.toList rest) F k r w = (match o.guard with
      | none => opS P T o F (λv w' => putS n F o.dst v λs => opsS P T n p.toList rest s k r w') (r F) w
      | some (j, A) => match nth p.toList j with
        | some g => match g.dst with
          | some d => match F d with
            | .bool b => match Nat.blt d n with
              | true => match A with
                | true => condS b (opS P T o (upd F d (.bool true)) (λv w' => putS n (upd F d (.bool true)) o.dst v λs => opsS P T n p.toList rest s k r w') (r (upd F d (.bool true))) w)
                    (putS n (upd F d (.bool false)) o.dst undef λs => opsS P T n p.toList rest s k r w)
                | false => condS b (putS n (upd F d (.bool true)) o.dst undef λs => opsS P T n p.toList rest s k r w)
                    (opS P T o (upd F d (.bool false)) (λv w' => putS n (upd F d (.bool false)) o.dst v λs => opsS P T n p.toList rest s k r w') (r (upd F d (.bool false))) w)
              | false => False
            | .tuple _ => putS n F o.dst undef λs => opsS P T n p.toList rest s k r w
            | _ => False
          | none => False
        | none => False) := by
      unfold opsStep;cases ho : o.op <;> first | rfl | exact absurd ⟨_, ho⟩ I
    rw [zDy, z] at h;clear z
    cases L : o.guard with
    | none =>
      simp only [L] at h;simp only [Region.wanted, L, if_true];exact S x h0 h K J
    | some jw =>
      obtain ⟨j, A⟩ := jw;simp only [L] at h;rw [nth_eq] at h;split at h
      case h_2 => exact h.elim
      case h_1 g hgj =>
      split at h
      case h_2 => exact h.elim
      case h_1 d hd =>
      have M : d < n -> yielded p a.tmps j = match F d with | .bool b => some b | _ => none := by
        intro hdn;have C : p[j]? = some g := by simpa using hgj
        have := x.get d (Nat.ne_of_lt (QJ hdn x.le));have hs := x.size;simp only [yielded, C, VN, hd]
        have e : a.tmps[d]? = some (F d) := by
          rw [<- this, Jr];rw [QT (by rw [hs]; exact hdn)]; rfl
        rw [e];cases F d <;> simp
      split at h
      · rename_i b O
        have hF : upd F d (.bool b) = F := by rw [<- O]; exact zEO F d
        split at h
        case h_2 => exact h.elim
        case h_1 hdn =>
        have Z : d < n := by simpa [Xe] using hdn
        have M := M Z;simp only [O] at M
        cases A <;> cases b <;> simp only [condS, hF] at h <;> simp only [Region.wanted, L, M] <;> simp <;> first
          | exact S x h0 h K J
          | exact ⟨λ_ _ => trivial, J _ _ (step x h0 h)⟩
      · rename_i vs O
        have M : yielded p a.tmps j = none := by
          by_cases hdn : d < n
          · rw [M hdn]; simp only [O]
          · have C : p[j]? = some g := by simpa using hgj
            have e : a.tmps[d]? = none := Jn (by rw [x.size]; exact Yi hdn);simp only [yielded, C, VN, hd, e]
        simp only [Region.wanted, L, M];simp;exact ⟨λ_ _ => trivial, J _ _ (step x h0 h)⟩
      · exact h.elim
theorem zDv{Q l:KS}{F o:Nat->Value}{p b:Nat->Bool}(q:∀G w,Rel n G=Rel n G->agree p F G->Q.nrm G w->agree b o G/\l.nrm G w)
  (r:∀i G w,agree p F G->Q.ext i G w->agree b o G/\l.ext i G w)(s:∀G w,agree p F G->Q.ret G w->agree b o G/\l.ret G w)
  (t:∀G c w,agree p F G->Q.pan G c w->agree b o G/\l.pan G c w):∀e a w,Q.lift n F p e a w->l.lift n o b e a w:=by
 intro e a w h;cases e <;> simp only [KS.lift] at h ⊢
 ·obtain⟨G,d,f,g⟩:=h;exact⟨G,d,q _ _ rfl f g⟩
 ·obtain⟨G,d,f,g⟩:=h;exact⟨G,d,r _ _ _ f g⟩
 ·obtain⟨G,d,f,g⟩:=h;exact⟨G,d,s _ _ f g⟩
 ·obtain⟨G,d,f,g⟩:=h;exact⟨G,d,t _ _ _ f g⟩
theorem zBg{b:Frame}{a:Act}{k:List Item}{cs:List Frame}{w:World}{c:Code}:step P (lone (b.atR a (.code (.scope c)::k)) cs w)=.next (lone (b.atR a (.code c::.inScope c::k)) cs w):=
 step_lone_go (by simp [stepG,stepG.exec,Frame.atR])
theorem zJR{b:Frame}{a:Act}{k:List Item}{cs:List Frame}{w:World}{c:Code}:step P (lone (b.atR a (.inScope c::k)) cs w)=.next (lone (b.atR a k) cs w):=
 step_lone_go (by simp [stepG,stepG.exec,Frame.atR])
theorem zBo(P:Program)(r:Option Nat)(m:Machine):m.fenced P (fw r):=fenced_wide P m
theorem zJX{r:Option Nat}{c:Code}{Q:Exit->Act->World->Prop}{a:Act}{w:World}(h:c.wpIn (fw r) 0 P (Exit.noGoto Q) a w):(Code.scope c).wpIn (fw r) 0 P Q a w:=by
 intro b k cs q v x;obtain⟨e,f,g,o,d⟩:=h b (.inScope c::k) cs q v x
 cases e with
 |normal=>exact⟨.normal,f,g,o,.head (zBo P r _) zBg (StepsIn.trans d (.one (zBo P r _) zJR))⟩
 |exit id =>
  exact⟨.exit id,f,g,o,λy s=>.head (zBo P r _) zBg (d.1 y (by simp [exitTo,s])),
   λt s=>let ⟨p,z,A⟩:=d.2 t (by simp [exitTo,s]);⟨p,z,.head (zBo P r _) zBg A⟩⟩
 |goto l=>exact o.elim
 |ret=>exact⟨_,f,g,o,.of_steps (.one (zBo P r _) zBg) d⟩
 |panic C=>exact⟨_,f,g,o,.of_steps (.one (zBo P r _) zBg) d⟩
 |outgrown=>exact⟨_,f,g,o,.of_steps (.one (zBo P r _) zBg) d⟩
theorem zBR(J:T.ok P=true):∀(c:Code) (Q:KS) (F:Nat->Value) (w:World),S P T n c Q F w->∀md:Option Nat,md.isSome=T.round->∀a,Rel n F a->c.wpIn (fw md) 0 P (Q.lift n F (wr c)) a w:=by
 intro c
 induction c with
 |skip=>intro Q F w h md b a o;exact wpIn_skip ⟨F,o,λ_ _=>rfl,h⟩
 |label l=>intro Q F w h md b a o;exact wpIn_label ⟨F,o,λ_ _=>rfl,h⟩
 |ret=>intro Q F w h md b a o;exact wpIn_ret ⟨F,o,λ_ _=>rfl,h⟩
 |exit i=>intro Q F w h md b a o;exact wpIn_exit ⟨F,o,λ_ _=>rfl,h⟩
 |region i ops C =>
  intro Q F w h md b a o
  cases C with
  |false =>
   simp only [S_skip,zAN,S_ret,S_exit,S_seq,S_cond,zAM,zAO,zAz,S_draw,S_loop,zAi,S_goto,zAy] at h;refine Jb ?_ (wpIn_region_list (zMP J b ops F Q.nrm Q.pan ops.toList (λ_=>false) F w a o (λ_ _=>rfl) h));intro e a' w' p;cases e <;> simp only [LQ] at p <;> simp only [KS.lift]
   ·simpa [wr] using p
   ·exact p
  |true=>simp only [S_skip,zAN,S_ret,S_exit,S_seq,S_cond,zAM,zAO,zAz,S_draw,S_loop,zAi,S_goto,zAy] at h;rw [zAE] at h;exact h md b a o
 |seq x y z A =>
  intro Q F w h md b a o;simp only [S_skip,zAN,S_ret,S_exit,S_seq,S_cond,zAM,zAO,zAz,S_draw,S_loop,zAi,S_goto,zAy] at h;refine wpIn_seq (Jb ?_ (z _ F w h md b a o));intro e a' w' p;cases e <;> simp only [KS.lift,Exit.then] at p ⊢
  ·obtain⟨s,v,q,r⟩:=p;refine Jb ?_ (A _ s w' r md b a' v);refine zDv ?_ ?_ ?_ ?_
   ·exact λG w _ f g=>⟨by have:=q.trans f;exact this,g⟩
   ·exact λi G w f g=>⟨by have:=q.trans f;exact this,g⟩
   ·exact λG w f g=>⟨by have:=q.trans f;exact this,g⟩
   ·exact λG c w f g=>⟨by have:=q.trans f;exact this,g⟩
  ·obtain⟨s,v,q,r⟩:=p;exact⟨s,v,q.mono (by intro t d;simp only [wr,QG] at d;exact d.1),r⟩
  ·obtain⟨s,v,q,r⟩:=p;exact⟨s,v,q.mono (by intro t d;simp only [wr,QG] at d;exact d.1),r⟩
  ·obtain⟨s,v,q,r⟩:=p;exact⟨s,v,q.mono (by intro t d;simp only [wr,QG] at d;exact d.1),r⟩
 |cond c x y z A =>
  intro Q F w h md b a o;simp only [S_skip,zAN,S_ret,S_exit,S_seq,S_cond,zAM,zAO,zAz,S_draw,S_loop,zAi,S_goto,zAy] at h;split at h
  ·rename_i t d;have I:a.eval c=.bool t:=by rw [o.eval];exact d
   cases t with
   |true =>
    refine wpIn_cond_true I (Jb ?_ (z _ F w h md b a o));refine zDv ?_ ?_ ?_ (λG c w f g=>⟨f.mono (by intro t d;simp only [wr,QG] at d;exact d.1),g⟩)
    ·exact λG w _ f g=>⟨f.mono (by intro t d;simp only [wr,QG] at d;exact d.1),g⟩
    ·exact λi G w f g=>⟨f.mono (by intro t d;simp only [wr,QG] at d;exact d.1),g⟩
    ·exact λG w f g=>⟨f.mono (by intro t d;simp only [wr,QG] at d;exact d.1),g⟩
   |false =>
    refine wpIn_cond_false I (Jb ?_ (A _ F w h md b a o));refine zDv ?_ ?_ ?_ (λG c w f g=>⟨f.mono (by intro t d;simp only [wr,QG] at d;exact d.2),g⟩)
    ·exact λG w _ f g=>⟨f.mono (by intro t d;simp only [wr,QG] at d;exact d.2),g⟩
    ·exact λi G w f g=>⟨f.mono (by intro t d;simp only [wr,QG] at d;exact d.2),g⟩
    ·exact λG w f g=>⟨f.mono (by intro t d;simp only [wr,QG] at d;exact d.2),g⟩
  ·exact h.elim
 |block i c H =>
  intro Q F w h md b a o;simp only [S_skip,zAN,S_ret,S_exit,S_seq,S_cond,zAM,zAO,zAz,S_draw,S_loop,zAi,S_goto,zAy] at h;refine wpIn_block (Jb ?_ (H _ F w h md b a o));intro e a' w' p;cases e <;> simp only [KS.lift,Exit.inBlock] at p ⊢
  ·exact p
  ·obtain⟨s,v,q,r⟩:=p;split at r
   ·rename_i E;rw [if_pos (QD E)];exact⟨s,v,q,r⟩
   ·rename_i j _ E;rw [if_neg (λe=>by rw [e] at E;simp at E)];exact⟨s,v,q,r⟩
  ·exact p
  ·exact p
 |scope c H =>
  intro Q F w h md b a o;simp only [S_skip,zAN,S_ret,S_exit,S_seq,S_cond,zAM,zAO,zAz,S_draw,S_loop,zAi,S_goto,zAy] at h;refine zJX (Jb ?_ (H _ F w h md b a o));intro e a' w' p;cases e <;> simp only [KS.lift,Exit.noGoto] at p ⊢ <;> exact p
 |_=>intro Q F w h md b a o;simp only [S_skip,zAN,S_ret,S_exit,S_seq,S_cond,zAM,zAO,zAz,S_draw,S_loop,zAi,S_goto,zAy] at h;rw [zAE] at h;exact h md b a o
end
def codeOf (fn : Func) : Code := match fn.body with | some c => c | none => .refuse ""
structure LoadR (P:Program) (t:TypeId) (a:Addr) (k:Value->Prop) (w:World):Prop where
 out:∃v,(loadVar t a).run P w=.ok v w/\k v
theorem zFh(P:Program)(t:TypeId)(a:Addr)(k:Value->Prop)(w:World):LoadR P t a k w↔(∃v,(loadVar t a).run P w=.ok v w/\k v):=⟨λh=>h.out,λh=>⟨h⟩⟩
def resS (P:Program):List ResultVar->List Value->(Nat->Value)->(Value->World->Prop)->World->Prop
 |[],acc,_,R,w=>match acc with|[v]=>R v w|acc=>R (.tuple acc.toArray) w
 |.tmp t::r,acc,F,R,w=>resS P r (acc++[ev F (.tmp t)]) F R w
 |.cell p t::r,acc,F,R,w=>match ev F (.tmp p) with
  |.pointer (some a)=>LoadR P t a (λv=>resS P r (acc++[v]) F R w) w
  |_=>False
structure LeaveS (P:Program) (rs:List ResultVar) (F:Nat->Value) (ds:List Deferred) (u:FrameMode) (R:Value->World->Prop) (pn:List PanicEntry->World->Prop) (w:World):Prop where
 out:∀(fn:Func) (tmps:Array Value),fn.results.toList=rs->(∀t,tmps.getD t undef=ev F (.tmp t))->LeavesInM Fence.wide 0 P fn tmps (RetP R pn) ds u w
def retS (P:Program) (rs:List ResultVar) (R:Value->World->Prop) (pn:List PanicEntry->World->Prop) (F:Nat->Value) (w:World):Prop:=
 match decD (F 4294967296) with
 |[]=>resS P rs [] F R w
 |d::ds=>LeaveS P rs F (d::ds) .returning R pn w
def panS (P:Program) (rs:List ResultVar) (R:Value->World->Prop) (pn:List PanicEntry->World->Prop) (F:Nat->Value) (c:List PanicEntry) (w:World):Prop:=
 match decD (F 4294967296) with
 |[]=>pn c w
 |d::ds=>LeaveS P rs F (d::ds) (.panicking c) R pn w
def retK (P:Program) (rs:List ResultVar) (R:Value->World->Prop) (pn:List PanicEntry->World->Prop):KS where
 nrm:=λF w=>retS P rs R pn F w
 ext:=λ_ _ _=>False
 ret:=λF w=>retS P rs R pn F w
 pan:=λF c w=>panS P rs R pn F c w
section
variable {P:Program}
def resRun (F:Nat->Value) (x:ResultVar):Sem Value:=
 match x with
 |.tmp t=>pure (ev F (.tmp t))
 |.cell a t=>do loadVar t (<-asAddr (ev F (.tmp a)))
theorem zHh(F:Nat->Value)(R:Value->World->Prop)(w:World):∀(l:List ResultVar) (b:List Value),
  resS P l b F R w->∃vs,(l.mapM (resRun F)).run P w=.ok vs w /\
   (match b++vs with|[v]=>R v w|b=>R (.tuple b.toArray) w)
 |[],b,h=>⟨[],by simp,by simpa [resS] using h⟩
 |.tmp t::r,b,h=>by
  simp only [resS] at h;obtain⟨vs,c,d⟩:=zHh F R w r _ h;refine⟨ev F (.tmp t)::vs,?_,by simpa using d⟩;simp only [List.mapM_cons,Qo,c,resRun,Jd,Qh]
 |.cell p t::r,b,h=>by
  simp only [resS] at h;split at h
  ·rename_i a e;rw [zFh] at h;obtain⟨v,f,h⟩:=h;obtain⟨vs,c,d⟩:=zHh F R w r _ h;refine⟨v::vs,?_,by simpa using d⟩;simp only [List.mapM_cons,Qo,c,resRun,Jd,Qh,e,asAddr,f]
  ·exact h.elim
theorem zOr{tmps:Array Value}{F:Nat->Value}(b:∀t,tmps.getD t undef=ev F (.tmp t))(x:ResultVar):(match x with
  |.tmp t=>pure (tmps.getD t undef)
  |.cell a t=>do loadVar t (<-asAddr (tmps.getD a undef)):Sem Value)=resRun F x:=by
 cases x <;> simp only [resRun,b]
theorem zH3(d:Func)(tmps:Array Value)(F:Nat->Value)(R:Value->World->Prop)(w:World)(g:∀t,tmps.getD t undef=ev F (.tmp t))(h:resS P d.results.toList [] F R w):
  ∃v,(results d tmps).run P w=.ok v w/\R v w:=by
 obtain⟨vs,l,c⟩:=zHh F R w _ _ h
 have f:(d.results.mapM (resRun F)).run P w=.ok vs.toArray w:=by
  rw [Array.mapM_eq_mapM_toList,Sem.run_map,l];rfl
 have e:results d tmps=(do let vs <-d.results.mapM (resRun F);pure (if h:vs.size=1 then vs[0] else .tuple vs)):=by
  have o:(λx:ResultVar=>(match x with
   |.tmp t=>pure (tmps.getD t undef)
   |.cell a t=>do loadVar t (<-asAddr (tmps.getD a undef)):Sem Value))=resRun F:=funext (zOr g)
  rw [<-o];unfold results;congr 1
 rw [e,Qo,f];simp only [Qh,Je] at c ⊢
 match vs,c with
 |[],c=>exact⟨_,by simp,c⟩
 |[v],c=>exact⟨v,by simp,c⟩
 |a::b::r,c=>exact⟨_,by simp,c⟩
theorem zJ6(l:List Value)(t:Nat):argF l t=(l[t]?).getD undef:=by
 induction l generalizing t with
 |nil=>simp [argF]
 |cons x r b=>cases t <;> simp [argF,b]
theorem zI1(args:Array Value)(n:Nat)(e:args.size<=n)(b:n<=4294967296):Rel n (argF args.toList) { tmps:=args++Array.replicate (n - args.size) undef,defers:=[] }:=by
 refine⟨by simp;omega,b,?_,?_⟩
 ·rw [zJ6,Jg (by simp;omega)];rfl
 intro t _;rw [zJ6];simp only [Jr,Array.getElem?_append];by_cases h:t<args.size
 ·simp [h]
 ·have c:args.toList[t]? = none:=by simp;omega
  simp only [h,if_false,c,JQ];by_cases d:t - args.size<n - args.size
  ·simp [d]
  ·rw [Jn (by simp;omega)];rfl
theorem Rel.ev_get{F:Nat->Value}{a:Act}(h:Rel n F a)(t:Nat):a.tmps.getD t undef=ev F (.tmp t):=by
 rw [<-h.eval];rfl
theorem zGo{T:Tab}(s:T.ok P=true)(t:T.round=false){f:FuncId}{d:Func}{args:Array Value}{w:World}{R:Value->World->Prop}{p:List PanicEntry->World->Prop}
  (x:P.funcs[f]? = some d)(y:d.ntmps=n)(z:d.body.isSome=true)(A:Nat.ble args.size n=true)(C:Nat.ble n 4294967296=true)
  (h:S P T n (codeOf d) (retK P d.results.toList R p) (argF args.toList) w):Calls P f args w (RetP R p):=by
 subst y;obtain⟨c,r⟩:=Xx.1 z;have q:codeOf d=c:=by simp [codeOf,r]
 rw [q] at h;rw [<-callsIn_wide (n:=0)];refine callsIn_of_wp_marks x r trivial (Jb ?_ (zBR s c _ _ w h none (by rw [t];rfl) _ (zI1 args d.ntmps (Vf A) (Vf C))))
 have fin:∀{l:Nat->Value} {a:Act} {w':World},Rel d.ntmps l a->retS P d.results.toList R p l w'->LeavesInM Fence.wide 0 P d a.tmps (RetP R p) a.defers .returning w':=by
  intro l a w' g b;unfold retS at b;rw [<-g.defers] at b;split at b
  ·rename_i hd;obtain⟨v,E,F⟩:=zH3 d a.tmps l R w' g.ev_get b;rw [hd];exact⟨v,E,F⟩
  ·rename_i hd;rw [hd];exact b.out d a.tmps rfl g.ev_get
 intro e a w' o;cases e <;> simp only [KS.lift,retK] at o <;> simp only [bodyPostM]
 ·obtain⟨l,g,_,b⟩:=o;exact fin g b
 ·obtain⟨l,_,_,b⟩:=o;exact b
 ·obtain⟨l,g,_,b⟩:=o;exact fin g b
 ·obtain⟨l,g,_,b⟩:=o;unfold panS at b;rw [<-g.defers] at b;split at b
  ·rename_i hd;rw [hd];exact b
  ·rename_i hd;rw [hd];exact b.out d a.tmps rfl g.ev_get
theorem zHJ{b:List ResultVar}{F:Nat->Value}{D:Nat}{args:Array Value}{ds:List Deferred}{u:FrameMode}{R:Value->World->Prop}{c:List PanicEntry->World->Prop}{w:World}(d:u≠.run)(e:w.heap[D]? = some (.deferred (some [])))
  (h:LeaveS P b F ds u R c (w.putObj D (.deferred none))):LeaveS P b F ({ target:=.collected D,args }::ds) u R c w:=
 ⟨λf tmps g l=>⟨d,.inl ⟨D,_,rfl,run_takeDeferred e,h.out f tmps g l⟩⟩⟩
theorem leave_ret{b:List ResultVar}{F:Nat->Value}{R:Value->World->Prop}{c:List PanicEntry->World->Prop}{w:World}(h:resS P b [] F R w):LeaveS P b F [] .returning R c w:=
 ⟨λd tmps e f=>by subst e;obtain⟨v,g,l⟩:=zH3 d tmps F R w f h;exact⟨v,g,l⟩⟩
theorem Sp.enter{T:Tab}(g:T.ok P=true)(l:T.round=false){f:FuncId}{b:Func}{args:Array Value}{w:World}{R:Value->World->Prop}
  (c : P.funcs[f]? = some b)(o : b.ntmps = n)(d : b.body.isSome = true)(p : (b.name == "runtime.NumGoroutine") = false)(q : Nat.ble args.size n = true)(r : Nat.ble n 4294967296 = true)
  (h:S P T n (codeOf b) (retK P b.results.toList R (λ_ _=>False)) (argF args.toList) w):Sp P f args w R:=
 ⟨⟨b,c,d,p⟩,(zGo g l c o d q r h).mono λe w' s=>by cases e <;> exact s⟩
theorem Sp.mono{f:FuncId}{args:Array Value}{w:World}{R R':Value->World->Prop}(h:Sp P f args w R)(c:∀v w',R v w'->R' v w'):Sp P f args w R':=
 ⟨h.can,h.calls.mono λe w' b=>by cases e <;> first|exact c _ _ b|exact b⟩
theorem ite{p A B:Prop}(h:p->A)(b:¬p->B):IteC p A B:=⟨h,b⟩
theorem rcall{f:FuncId}{args:Array Value}{k:Value->World->Prop}{c:List PanicEntry->World->Prop}{w:World}{R:Value->World->Prop}
  (h:Sp P f args w R)(d:∀v w',R v w'->k v w'):CallS P f args k c w:=by
 rw [zBQ];exact⟨h.can,h.calls.mono λe w' b=>by cases e <;> first|exact d _ _ b|exact b.elim⟩
theorem zBZ{x:Int}(h0:-9223372036854775808<=x)(b:x<=9223372036854775807):IntKind.i64.wrap x=x:=IntWalk.i64_in x (by omega)
theorem rar{x:Int}{k:Value->World->Prop}{w:World}(h0:-9223372036854775808<=x/\x<=9223372036854775807)(b:k (.int .i64 x) w):ArS .i64 x k w:=by
 rw [zDO];rw [zBZ h0.1 h0.2];exact b
theorem rA {k:Value->World->Prop}{w:World}{x:Int}(hk:k (.int .i64 x) w)(h0:-9223372036854775808<=x/\x<=9223372036854775807:=by omega):ArS .i64 x k w:=rar h0 hk
theorem iF {p A B:Prop}(h:¬p)(k:B):IteC p A B:=⟨λx=>absurd x h,λ_=>k⟩
theorem iT {p A B:Prop}(h:p)(k:A):IteC p A B:=⟨λ_=>k,λx=>absurd h x⟩
theorem nf:¬False:=id
end
def isRec:Obj->Bool
 |.loop _=>true
 |.deferred _=>true
 |_=>false
structure Fr (D:Nat->Prop) (w w':World):Prop where
 os:w'.os=w.os
 tape:w'.tape=w.tape
 output:w'.output=w.output
 size:w.heap.size<=w'.heap.size
 block:∀b,b<w.heap.size->¬D b->w'.heap[b]? = w.heap[b]?
 nc:∀(b:Nat) (o:Obj),w.heap[b]? = some o->isRec o=true->w'.heap[b]? = some o
abbrev Ext (w w':World):Prop:=Fr (λ_=>False) w w'
theorem blk_lt{w:World}{b:Nat}{o:Obj}(d:w.heap[b]? = some o):b<w.heap.size:=by
 rcases QH b w.heap.size with c|c
 ·exact c
 ·rw [Jn c] at d;cases d
theorem Fr.refl(D:Nat->Prop)(w:World):Fr D w w:=⟨rfl,rfl,rfl,Qe _,λ_ _ _=>rfl,λ_ _ h _=>h⟩
theorem Fr.trans{a b c:World}(h:Fr D a b)(k:Fr D b c):Fr D a c:=
 ⟨k.os.trans h.os,k.tape.trans h.tape,k.output.trans h.output,Qw h.size k.size,λi hi hd=>(k.block i (QJ hi h.size) hd).trans (h.block i hi hd),λi o hi d=>k.nc i o (h.nc i o hi d) d⟩
theorem Fr.mono{c:Nat->Prop}{a b:World}(h:Fr D a b)(hd:∀i,i<a.heap.size->D i->c i):Fr c a b:=
 ⟨h.os,h.tape,h.output,h.size,λi hi d=>h.block i hi λe=>d (hd i hi e),h.nc⟩
theorem Fr.fr{a b:World}(h:Ext a b):Fr D a b:=h.mono λ_ _ h=>h.elim
theorem Fr.st{a b c:World}(h:Ext a b)(k:Fr D b c)(hd:∀i,D i->a.heap.size<=i):Ext a c:=
 ⟨k.os.trans h.os,k.tape.trans h.tape,k.output.trans h.output,Qw h.size k.size,λi hi _=>(k.block i (QJ hi h.size) λe=>by have:=hd i e;omega).trans (h.block i hi id),λi o hi d=>k.nc i o (h.nc i o hi d) d⟩
theorem Ext.t{a b c:World}(h:Ext a b)(k:Ext b c):Ext a c:=Fr.trans h k
class Stp (a:outParam World) (c:World):Prop where
 e:Ext a c
class Stw (u b:outParam World) (c:World):Prop where
 e:Fr (λi=>u.heap.size<=i) b c
class Le (a b:World):Prop where
 e:Ext a b
instance Le.refl (a:World):Le a a:=⟨Fr.refl _ a⟩
instance Le.step {a b c:World} [k:Stp b c] [h:Le a b]:Le a c:=⟨h.e.t k.e⟩
instance Le.fresh {a b c u:World} [k:Stw u b c] [h:Le a b] [g:Le a u]:Le a c:=⟨Fr.st h.e k.e λ_ hi=>Qw g.e.size hi⟩
theorem stp{a b:World}[h:Le a b]:Stp a b:=⟨h.e⟩
theorem Le.size{a b:World}[h:Le a b]:a.heap.size<=b.heap.size:=h.e.size
theorem Fr.stw{b c:World}(h:Fr D b c)(hd:∀i,D i->u.heap.size<=i):Stw u b c:=⟨h.mono λi _ hi=>hd i hi⟩
theorem upb{a b:World}[h:Le a b]{o:Obj}(c:a.heap[i]? = some o):b.heap[i]? = some o:=by
 rw [h.e.block i (blk_lt c) id];exact c
theorem Ext.alloc(w:World)(o:Obj):Ext w (w.alloc o):=⟨rfl,rfl,rfl,by simp,λb c _=>VD w o b c,λb o' c _=>(VD w o b (blk_lt c)).trans c⟩
theorem Ext.drew(w:World):Ext w { w with drawn:=w.drawn+1 }:=⟨rfl,rfl,rfl,Qe _,λ_ _ _=>rfl,λ_ _ h _=>h⟩
theorem Fr.grown{w:World}{row:Option Nat}(h:w.grownBy w' row)(f:∀r o,row=some r->w.heap[r]? = some o->isRec o=false):Fr (λb=>some b=row) w w':=
 ⟨h.os,h.tape,h.output,h.size,λb c g=>h.block b c g,λb o c d=>(h.block b (blk_lt c) λe=>by have:=f b o e.symm c;rw [this] at d;cases d).trans c⟩
theorem Fr.below{w:World}(h:Fr D w w')(hd:∀b,b<w.heap.size->¬D b):Go.RowKit.Below w.heap.size w w':=⟨h.os,h.tape,h.output,h.size,λb c=>h.block b c (hd b c)⟩
theorem Ext.below{w:World}(h:Ext w w'):Go.RowKit.Below w.heap.size w w':=Fr.below h λ_ _ h=>h
theorem Fr.blk{w:World}(h:Fr D w w'){b:Nat}{o:Obj}(c:w.heap[b]? = some o)(hd:¬D b):w'.heap[b]? = some o:=by
 have e:b<w.heap.size:=by
  rcases QH b w.heap.size with d|d
  ·exact d
  ·rw [Jn d] at c;cases c
 rw [h.block b e hd];exact c
theorem Ext.blk{w:World}(h:Ext w w'){b:Nat}{o:Obj}(c:w.heap[b]? = some o):w'.heap[b]? = some o:=Fr.blk h c id
theorem Fr.cell{w:World}(h:Fr D w w'){a:Addr}{v:Value}(b:w.cell? a=some v)(hd:¬D a.block):w'.cell? a=some v:=by
 rw [World.cell?_of_block (w:=w) (h.block a.block (XA w a b) hd)];exact b
theorem Ext.cell{w:World}(h:Ext w w'){a:Addr}{v:Value}(b:w.cell? a=some v):w'.cell? a=some v:=Fr.cell h b id
def At (w:World) (b o:Nat) (cs:List Value):Prop:=∀j v,cs[j]? = some v->w.cell? ⟨b,o+j,none⟩=some v
theorem At.fr{w:World}{b o:Nat}{cs:List Value}(h:At w b o cs)(c:Fr D w w')(hd:¬D b):At w' b o cs:=λj v d=>c.cell (h j v d) hd
theorem At.ext{w:World}{b o:Nat}{cs:List Value}(h:At w b o cs)(c:Ext w w'):At w' b o cs:=At.fr h c id
theorem At.up{w:World}[h:Le w w']{b o:Nat}{cs:List Value}(a:At w b o cs):At w' b o cs:=a.ext h.e
theorem At.cell{w:World}{b o:Nat}{cs:List Value}(h:At w b o cs)(j:Nat){v:Value}(c:cs[j]? = some v):w.cell? ⟨b,o+j,none⟩=some v:=h j v c
theorem At.cell0{w:World}{b o:Nat}{cs:List Value}(h:At w b o cs){v:Value}(c:cs[0]? = some v):w.cell? ⟨b,o,none⟩=some v:=h 0 v c
theorem At.sub{w:World}{b o:Nat}{cs:List Value}(h:At w b o cs)(i n:Nat):At w b (o+i) ((cs.drop i).take n):=by
 intro j v c
 have:cs[i+j]? = some v:=by
  rw [Vh] at c;split at c
  ·simpa using c
  ·cases c
 have:=h _ _ this
 rwa [<-Nat.add_assoc] at this
theorem At.blk{w:World}{b:Nat}{cs:Array Value}{e:TypeId}{fz:Nat×Nat}(h:w.heap[b]? = some (.cells cs e fz)):At w b 0 cs.toList:=by
 intro j v c;rw [cell_of_row w b (0+j) cs e fz h];simpa using c
def look:List (Nat×Value)->Nat->Option Value
 |[],_=>none
 |(s,v)::r,t=>bif Nat.beq s t then some v else look r t
def memB:List Nat->Nat->Bool
 |[],_=>false
 |s::r,t=>Nat.beq s t || memB r t
def hdF (m:Nat) (keep:List Nat) (sv:List (Nat×Value)) (g F:Nat->Value):Nat->Value:=λt =>
 match look sv t with
 |some v=>v
 |none=>bif Nat.beq t 4294967296 || xor (Nat.blt t m) (memB keep t) then F t else g t
def mapF (F:Nat->Value):List Nat->List Value
 |[]=>[]
 |s::r=>F s::mapF F r
def zipS:List Nat->List Value->List (Nat×Value)
 |s::r,v::vs=>(s,v)::zipS r vs
 |_,_=>[]
def nodupB:List Nat->Bool
 |[]=>true
 |s::r=>!memB r s && nodupB r
def okD (m:Nat) (keep slots:List Nat) (d:Nat):Bool:=memB slots d || !(Nat.beq d 4294967296 || xor (Nat.blt d m) (memB keep d))
def okL (m:Nat) (keep slots:List Nat):List Oper->Bool
 |[]=>true
 |o::r=>(match o.dst with|some d=>okD m keep slots d|none=>true) && (bif isDef o.op then okD m keep slots 4294967296 else true) && okL m keep slots r
def okC (m:Nat) (keep slots:List Nat):Code->Bool
 |.region _ ops _=>okL m keep slots ops.toList
 |.seq a b=>okC m keep slots a && okC m keep slots b
 |.cond _ a b=>okC m keep slots a && okC m keep slots b
 |.block _ c=>okC m keep slots c
 |.loop c=>okC m keep slots c
 |.scope c=>okC m keep slots c
 |.rangeFunc ..=>okD m keep slots 4294967296
 |_=>true
def wrAll (c:Code):List Nat->Bool
 |[]=>true
 |s::r=>wr c s && wrAll c r
def okB (m:Nat) (keep slots:List Nat) (c:Code):Bool:=okC m keep slots c && nodupB slots && wrAll c slots && !memB slots 4294967296
theorem okL_spec{keep slots:List Nat}(l:List Oper)(h:okL m keep slots l=true)(t:Nat)(b:wrL l t=true):okD m keep slots t=true:=by
 induction l with
 |nil=>simp [wrL] at b
 |cons o r e =>
  simp only [okL,Qz] at h;simp only [wrL,VV] at b;rcases b with b|b
  ·unfold wrO at b;rw [VV,Qz] at b;rcases b with b|b
   ·unfold isD at b;have c:=h.1.1;split at b
    ·rename_i d hd;simp only [hd] at c;rw [QD b];exact c
    ·cases b
   ·have c:=h.1.2;rw [b.1,cond_true] at c;rw [QD b.2];exact c
  ·exact e h.2 b
theorem zKw{keep slots:List Nat}:∀(c:Code),okC m keep slots c=true->∀t,wr c t=true->okD m keep slots t=true:=by
 intro c
 induction c with
 |region i ops d=>intro h t e;exact okL_spec _ h t e
 |seq a b g l=>intro h t e;simp only [okC,Qz] at h;simp only [wr,VV] at e;exact e.elim (g h.1 t) (l h.2 t)
 |cond x a b g l=>intro h t e;simp only [okC,Qz] at h;simp only [wr,VV] at e;exact e.elim (g h.1 t) (l h.2 t)
 |block i c o=>intro h t e;exact o h t e
 |loop c o=>intro h t e;exact o h t e
 |scope c o=>intro h t e;exact o h t e
 |rangeFunc f ps a b=>intro h t e;rw [QD e];exact h
 |_=>intro h t e;simp [wr] at e
theorem zKs(slots:List Nat)(F:Nat->Value)(t:Nat):look (zipS slots (mapF F slots)) t=bif memB slots t then some (F t) else none:=by
 induction slots with
 |nil=>rfl
 |cons s r b =>
  simp only [mapF,zipS,look,memB]
  cases h:Nat.beq s t with
  |true=>rw [QD h];simp
  |false=>simp [b]
section
variable {P:Program} {T:Tab} {n:Nat}
theorem zEq{keep slots:List Nat}{c:Code}(b:okB m keep slots c=true){F G:Nat->Value}(h:agree (wr c) F G):
  hdF m keep (zipS slots (mapF G slots)) G F=G:=by
 simp only [okB,Qz] at b;funext t;unfold hdF;rw [zKs]
 cases e:memB slots t with
 |true=>rfl
 |false =>
  simp only [cond_false]
  cases f:(Nat.beq t 4294967296 || xor (Nat.blt t m) (memB keep t)) with
  |false=>rfl
  |true =>
   simp only [cond_true]
   cases d:wr c t with
   |false=>exact(h t d).symm
   |true =>
    have:=zKw c b.1.1.1 t d;simp only [okD,e,Bool.false_or,f] at this;cases this
theorem loopL(V:T.ok P=true)(m:Nat)(keep slots:List Nat)(I:List Value->World->Prop)(J:List Value->World->Nat){body:Code}{Q:KS}{F:Nat->Value}{w:World}
  (x:okB m keep slots body=true)(h0:I (mapF F slots) w)
  (W:∀vs g w,vs.length=slots.length->I vs w->S P T n body
   { Q with nrm:=λR w'=>I (mapF R slots) w'/\J (mapF R slots) w'<J vs w } (hdF m keep (zipS slots vs) g F) w):DeepS P T n (.loop body) Q F w:=by
 rw [zAE];intro md K a X;have d:=x;simp only [okB,Qz,VJ] at d
 have f:∀(A B:Nat->Value),(∀t,t≠4294967296->A t=B t)->mapF A slots=mapF B slots:=by
  intro A B L
  have:∀l:List Nat,memB l 4294967296=false->mapF A l=mapF B l:=by
   intro l
   induction l with
   |nil=>intro _;rfl
   |cons s r Y =>
    intro h;simp only [memB,QG] at h;simp only [mapF];rw [Y h.2,L s λe=>by subst e;simp at h]
  exact this slots d.2
 have y:∀(G:Nat->Value),agree (wr body) F G->hdF m keep (zipS slots (mapF G slots)) G F=G:=λG H=>zEq x H;refine wpIn_loop (λa' w'=>∃G,Rel n G a'/\agree (wr body) F G/\I (mapF G slots) w') (λa' w'=>J (mapF (λt=>a'.tmps.getD t undef) slots) w') ⟨F,X,λ_ _=>rfl,h0⟩ ?_;rintro a' w' ⟨G,H,c,Z⟩
 have z:(mapF G slots).length=slots.length:=by
  have:∀l,(mapF G l).length=l.length:=by intro l;induction l <;> simp_all [mapF]
  exact this slots
 have U:=W (mapF G slots) G w' z Z;rw [y G c] at U;have M:mapF (λt=>a'.tmps.getD t undef) slots=mapF G slots:=f _ _ H.get;refine Jb ?_ (zBR V body _ _ _ U md K a' H);intro e O a0 C;cases e <;> simp only [KS.lift,Exit.then] at C ⊢
 ·obtain⟨o,p,q,v,h4⟩:=C;have E:mapF (λt=>O.tmps.getD t undef) slots=mapF o slots:=f _ _ p.get;refine⟨⟨o,p,λt b=>by rw [q t b,c t b],v⟩,?_⟩;rw [M,E];exact h4
 ·obtain⟨o,p,q,v⟩:=C;exact⟨o,p,λt b=>by simp only [wr] at b;rw [q t b,c t b],v⟩
 ·obtain⟨o,p,q,v⟩:=C;exact⟨o,p,λt b=>by simp only [wr] at b;rw [q t b,c t b],v⟩
 ·obtain⟨o,p,q,v⟩:=C;exact⟨o,p,λt b=>by simp only [wr] at b;rw [q t b,c t b],v⟩
theorem loop1(l:T.ok P=true)(m:Nat)(keep:List Nat)(c:Nat)(I:Value->World->Prop)(d:Value->World->Nat){body:Code}{Q:KS}{F:Nat->Value}{w:World}
  (e:okB m keep [c] body=true)(h0:I (F c) w)
  (o:∀b g w,I b w->S P T n body { Q with nrm:=λh w'=>I (h c) w'/\d (h c) w'<d b w } (hdF m keep [(c,b)] g F) w):DeepS P T n (.loop body) Q F w:=
 loopL l m keep [c] (λvs w=>match vs with|[b]=>I b w|_=>False) (λvs w=>match vs with|[b]=>d b w|_=>0) e h0
  λvs g w _ f=>match vs,f with|[b],f=>o b g w f
theorem loop2(p:T.ok P=true)(m:Nat)(keep:List Nat)(d e:Nat)(I:Value->Value->World->Prop)(h:Value->Value->World->Nat){body:Code}{Q:KS}{F:Nat->Value}{w:World}
  (l:okB m keep [d,e] body=true)(h0:I (F d) (F e) w)
  (q:∀b c g w,I b c w->S P T n body { Q with nrm:=λf w'=>I (f d) (f e) w'/\h (f d) (f e) w'<h b c w } (hdF m keep [(d,b),(e,c)] g F) w):DeepS P T n (.loop body) Q F w:=
 loopL p m keep [d,e] (λvs w=>match vs with|[b,c]=>I b c w|_=>False) (λvs w=>match vs with|[b,c]=>h b c w|_=>0) l h0
  λvs g w _ o=>match vs,o with|[b,c],o=>q b c g w o
theorem loop3(r:T.ok P=true)(m:Nat)(keep:List Nat)(e f h:Nat)(I:Value->Value->Value->World->Prop)(o:Value->Value->Value->World->Nat){body:Code}{Q:KS}{F:Nat->Value}{w:World}
  (p:okB m keep [e,f,h] body=true)(h0:I (F e) (F f) (F h) w)
  (s:∀b c d g w,I b c d w->S P T n body { Q with nrm:=λl w'=>I (l e) (l f) (l h) w'/\o (l e) (l f) (l h) w'<o b c d w } (hdF m keep [(e,b),(f,c),(h,d)] g F) w):DeepS P T n (.loop body) Q F w:=
 loopL r m keep [e,f,h] (λvs w=>match vs with|[b,c,d]=>I b c d w|_=>False) (λvs w=>match vs with|[b,c,d]=>o b c d w|_=>0) p h0
  λvs g w _ q=>match vs,q with|[b,c,d],q=>s b c d g w q
end
def oneB (P:Program) (t:TypeId):Bool:=match P.underlying t with|some (.struct _)=>false|some (.array _ _)=>false|some _=>true|none=>false
def aggB (P:Program) (t n:Nat):Bool:=(match P.underlying t with|some (.struct _)=>true|some (.array _ _)=>true|_=>false) && (match P.info? t with|some i=>Nat.beq i.size n|none=>false)
class One (P:Program) (t:TypeId):Prop where
 h:oneB P t=true:=by kernel_rfl
class Agg (P:Program) (t:TypeId) (n:outParam Nat):Prop where
 h:aggB P t n=true:=by kernel_rfl
class SlT (P:Program) (t:TypeId) (e:outParam TypeId):Prop where
 h:P.underlying t=some (.slice e):=by kernel_rfl
class Elem (P:Program) (e:TypeId) (z:outParam Value) (sz bytes:outParam Nat):Prop where
 h:(P.info? e).map (λi=>(i.zero,i.size,i.bytes))=some (some z,sz,bytes):=by kernel_rfl
section
variable {P:Program} {k:Value->World->Prop} {pn:List PanicEntry->World->Prop} {w:World}
theorem SemV.of{s:Sem Value}{v:Value}(h:s.run P w=.ok v w')(b:k v w'):SemV P s k pn w:=by rw [zC1];rw [h];exact b
theorem SemU.of{s:Sem Unit}(h:s.run P w=.ok () w')(b:k undef w'):SemU P s k pn w:=by rw [zGS];rw [h];exact b
theorem zE2{t:TypeId}(h:oneB P t=true)(w:World):(isAgg t).run P w=.ok false w:=by
 unfold oneB at h;simp only [isAgg,underlying,Qo,run_program,Qh]
 cases hd:P.underlying t with
 |none=>rw [hd] at h;cases h
 |some d =>
  rw [hd] at h;cases d <;> first|rfl|cases h
end
theorem zAs(b o d:Nat):(⟨b,o,none⟩:Addr).add d=⟨b,o+d,none⟩:=by
 unfold Addr.add;split <;> simp_all
section
variable {P:Program} {k:Value->World->Prop} {pn:List PanicEntry->World->Prop} {w:World}
theorem zDC{t:TypeId}(b:One P t){a:Addr}{v:Value}(h:w.cell? a=some v):(loadVar t a).run P w=.ok v w:=by
 simp only [loadVar,Qo,zE2 b.h,Qh,Jt,if_false];simp [load,Sem.run,h]
theorem zGU{t:Nat}(h:aggB P t n=true):(isAgg t).run P w=.ok true w/\(sizeOf t).run P w=.ok n w:=by
 unfold aggB at h;rw [Qz] at h;obtain⟨d,c⟩:=h;constructor
 ·split at d
  ·rename_i fs b;simp only [isAgg,underlying,Qo,run_program,Qh,b,Jd]
  ·rename_i x y b;simp only [isAgg,underlying,Qo,run_program,Qh,b,Jd]
  ·cases d
 ·split at c
  ·rename_i i hi;simp only [sizeOf,typeInfo,Qo,run_program,Qh,hi,Jd];rw [QD c]
  ·cases c
theorem zFM{t:Nat}(c:Agg P t n){b o:Nat}{cs:List Value}(h:At w b o cs)(d:cs.length=n):(loadVar t ⟨b,o,none⟩).run P w=.ok (.agg cs.toArray) w:=by
 obtain⟨e,f⟩:=zGU (w:=w) c.h;simp only [loadVar,Qo,e,Qh,if_true,f];rw [<-d,run_loadCells_list (P:=P) (w:=w) ⟨b,o,none⟩ cs (λj v g=>by rw [zAs];exact h j v g)];rfl
theorem rload1{t:TypeId}[c:One P t]{b o:Nat}{v:Value}(h:w.cell? ⟨b,o,none⟩=some v)(d:k v w):SemV P (Instr.loadAt t (.pointer (some ⟨b,o,none⟩))) k pn w:=
 SemV.of (v:=v) (w':=w) (by simp [Instr.loadAt,Instr.sureAddr,zDC c h]) d
theorem rloadA{t:Nat}[c:Agg P t n]{b o:Nat}{cs:List Value}(h:At w b o cs)(d:cs.length=n)(e:k (.agg cs.toArray) w):SemV P (Instr.loadAt t (.pointer (some ⟨b,o,none⟩))) k pn w:=
 SemV.of (v:=.agg cs.toArray) (w':=w) (by simp [Instr.loadAt,Instr.sureAddr,zFM c h d]) e
theorem rres1{t:TypeId}[c:One P t]{b o:Nat}{v:Value}{k:Value->Prop}(h:w.cell? ⟨b,o,none⟩=some v)(d:k v):LoadR P t ⟨b,o,none⟩ k w:=by
 rw [zFh];exact⟨v,zDC c h,d⟩
theorem rresA{t:Nat}[c:Agg P t n]{b o:Nat}{cs:List Value}{k:Value->Prop}(h:At w b o cs)(d:cs.length=n)(e:k (.agg cs.toArray)):LoadR P t ⟨b,o,none⟩ k w:=by
 rw [zFh];exact⟨_,zFM c h d,e⟩
class New (w:outParam World) (w':World) (b:outParam Nat) (cs:outParam (Array Value)) (e:outParam TypeId):Prop where
 lo:w.heap.size<=b
 blk:w'.heap[b]? = some (.cells cs e (0,0))
 ext:Ext w w'
theorem New.mk'(w:World)(cs:Array Value)(e:TypeId):New w (w.alloc (.cells cs e)) w.heap.size cs e:=⟨Qe _,heap_alloc_new w _,Ext.alloc w _⟩
instance New.stp {w w':World} {b:Nat} {cs:Array Value} {e:TypeId} [n:New w w' b cs e]:Stp w w':=⟨n.ext⟩
theorem rbox{e:TypeId}{v:Value}(c:∀b w',New w w' b v.cells e->k (.pointer (some ⟨b,0,none⟩)) w'):SemV P (Instr.box e v) k pn w:=
 SemV.of (v:=.pointer (some ⟨w.heap.size,0,none⟩)) (w':=w.alloc (.cells v.cells e)) (by rfl) (c _ _ (New.mk' w v.cells e))
theorem ralloc{e:TypeId}{z:Value}{sz c:Nat}[d:Elem P e z sz c](f:∀b w',New w w' b z.cells e->k (.pointer (some ⟨b,0,none⟩)) w'):SemV P (Instr.alloc e true (.tuple #[])) k pn w:=by
 obtain⟨i,hi,g,_,_⟩:=info_parts d.h;exact SemV.of (v:=.pointer (some ⟨w.heap.size,0,none⟩)) (w':=w.alloc (.cells z.cells e)) (by simp [Instr.alloc,zeroValue,typeInfo,hi,g,newVar,newRow]) (f _ _ (New.mk' w z.cells e))
theorem zD1{t e:TypeId}{z:Value}{sz d:Nat}(f:SlT P t e)(g:Elem P e z sz d){b o c:Nat}{i:Int}(h0:0<=i)(l:i<n)(w:World):
  (Instr.indexAt t (.slice (some ⟨b,o,none⟩) n c) (.int .i64 i)).run P w=.ok (.pointer (some ⟨b,o+i.toNat*sz,none⟩)) w:=by
 obtain⟨j,p,_,q,_⟩:=info_parts g.h;simp [Instr.indexAt,asIntOf,underlying,f.h,sizeOf,typeInfo,p,q,h0,l,zAs]
end
end Go.W
set_option linter.unusedSimpArgs false
namespace Go.W
open Go
variable {B N i j k m n:Nat} {D:Nat -> Prop} {P:Program} {a a':Option Addr} {u u' w':World}
structure TakeS (P:Program) (s:Sem Value) (D:Nat->Prop) (k:Value->Prop) (w:World):Prop where
 out:∃v,(∀w',Fr D w w'->s.run P w'=.ok v w')/\k v
theorem zAe(P:Program)(s:Sem Value)(D:Nat->Prop)(k:Value->Prop)(w:World):TakeS P s D k w↔(∃v,(∀w',Fr D w w'->s.run P w'=.ok v w')/\k v):=⟨λh=>h.out,λh=>⟨h⟩⟩
def takeK (o:Oper):Bool:=
 match o.op with
 |.move _ | .assign _ | .pick .. | .binOp .. | .unOp .. | .fieldAddr .. | .extract .. | .makeFunc .. | .load .. | .indexAddr .. | .index .. | .slice .. | .build .. | .lookup .. | .convert .. | .field .. | .makeInterface .. | .typeAssert .. | .nilCheck ..=>true
 |.call { callee:=.builtin b,.. }=>match b with | .len | .max | .min | .cap=>true|_=>false
 |_=>false
def takeS (P:Program) (T:Tab) (D:Nat->Prop) (o:Oper) (F:Nat->Value) (k:Value->Prop) (w:World):Prop:=
 match o.op with
 |.move x | .assign x=>k (ev F x)
 |.pick c a b=>pickS (ev F c) (ev F a) (ev F b) (λv _=>k v) w
 |.binOp op t x y _=>match ev F x,ev F y with
  |.int kx m,.int ky n=>bif kindEq kx ky then
    match op with
    |.add=>ArS kx (m+n) (λv _=>k v) w
    |.sub=>ArS kx (m - n) (λv _=>k v) w
    |.mul=>ArS kx (m*n) (λv _=>k v) w
    |.quo=>DivS kx m n (λv _=>k v) w
    |.rem=>RemS kx m n (λv _=>k v) w
    |op=>cmpS op m n (λv _=>k v) False w
   else False
  |a,b=>TakeS P (do eqGuard op t x y a b;binOp op t a b) D k w
 |.unOp op _ x=>match op,ev F x with
  |.not,.bool b=>k (.bool (!b))
  |op,v=>TakeS P (Op.unary op v) D k w
 |.fieldAddr s x f=>fieldS T s f (ev F x) (TakeS P (Instr.fieldAt s (ev F x) f) D k w) (λv _=>k v) w
 |.nilCheck x=>nilS (ev F x) False (λv _=>k v) w
 |.extract t i=>extS (ev F t) i (λv _=>k v) w
 |.makeFunc fn first captured=>k (.func fn (evL F first.toList).toArray (evL F captured.toList).toArray)
 |.load t a=>TakeS P (Instr.loadAt t (ev F a)) D k w
 |.indexAddr t x ix=>TakeS P (Instr.indexAt t (ev F x) (ev F ix)) D k w
 |.index t x ix=>TakeS P (Instr.index t (ev F x) (ev F ix)) D k w
 |.slice t x lo hi mx=>TakeS P (Instr.sliceAt t (ev F x) (lo.map (ev F)) (hi.map (ev F)) (mx.map (ev F))) D k w
 |.build t parts=>TakeS P (Instr.build t (evP F parts.toList).toArray) D k w
 |.lookup t x ix ok=>TakeS P (Instr.lookup t (ev F x) (ev F ix) ok) D k w
 |.convert src dst x=>TakeS P (convert src dst (ev F x)) D k w
 |.field t x f=>TakeS P (Instr.field t (ev F x) f) D k w
 |.makeInterface t x=>TakeS P (Instr.makeInterface t (ev F x)) D k w
 |.typeAssert x t u ok=>TakeS P (Instr.typeAssert (ev F x) t u ok) D k w
 |.call c=>match c.callee with
  |.builtin b=>match b with
   |.len=>match c.args.toList,c.argTypes.toList with
    |[x],[t]=>lenS T t (ev F x) (TakeS P (Builtin.len_ c.argTypes o.type (evL F c.args.toList).toArray) D k w) (λv _=>k v) w
    |_,_=>False
   |.max=>TakeS P (Builtin.max_ c.argTypes o.type (evL F c.args.toList).toArray) D k w
   |.min=>TakeS P (Builtin.min_ c.argTypes o.type (evL F c.args.toList).toArray) D k w
   |.cap=>TakeS P (Builtin.cap_ c.argTypes o.type (evL F c.args.toList).toArray) D k w
   |_=>False
  |_=>False
 |_=>False
section
variable {P:Program} {T:Tab} {n:Nat}
theorem takeV{k:Value->Prop}{w:World}{s:Sem Value}(h:TakeS P s D k w):
  ∃v,(∀w',Fr D w w'->(do let x <-s;pure (Next.value x):Sem Next).run P w'=.ok (.value v) w')/\k v:=by
 rw [zAe] at h;obtain⟨v,c,d⟩:=h;exact⟨v,λw' b=>by rw [run_v,c w' b];rfl,d⟩
theorem zJw(H : T.ok P = true){o : Oper}{F : Nat -> Value}{k : Value -> Prop}{w : World}(h : takeS P T D o F k w) :
    ∃ v, (∀ w', Fr D w w' -> (execOp (ev F) o).run P w' = .ok (.value v) w') /\ k v := by
  unfold takeS at h;unfold execOp;split at h <;> rename_i R <;> simp only [R]
  · exact ⟨_, λw' _ => rfl, h⟩
  · exact ⟨_, λw' _ => rfl, h⟩
  · unfold pickS at h
    split at h
    · rename_i c I
      simp only [I, asBool];cases c <;> exact ⟨_, λw' _ => by simp, h⟩
    · exact h.elim
  · split at h
    · rename_i E t x y _ _ _ J m S n K U
      cases L : kindEq J S with
      | false => simp only [L, cond_false] at h
      | true =>
        simp only [L, cond_true] at h;obtain rfl := zJc L
        have l : ∀ v, (∀ w', (binOp E t (.int J m) (.int J n)).run P w' = .ok v w') -> k v -> ∃ v, (∀ w', Fr D w w' -> (do let v <- (do eqGuard E t x y (ev F x) (ev F y); binOp E t (ev F x) (ev F y) : Sem Value); pure (Next.value v) : Sem Next).run P w' = .ok (.value v) w') /\ k v := by
          intro v q M;refine ⟨v, λw' _ => ?_, M⟩;rw [K, U, run_v, Qo, zGp];simp only [Qh, q]
        cases E <;> simp only [cmpS, zDO, zEb, zC0] at h <;> first
          | exact h.elim
          | (refine l _ (λw' => ?_) h; simp [binOp, Op.intArith]; done)
          | (obtain ⟨h0, r⟩ := h; refine l _ (λw' => ?_) r; simp [binOp, Op.intDiv, h0]; done)
          | (rcases Xw _ with z | z
             · refine l (.bool true) (λw' => ?_) (h.t z); simp [binOp, Op.intCmp]; first | exact z | omega
             · refine l (.bool false) (λw' => ?_) (h.f z); simp [binOp, Op.intCmp]; first | exact z | omega)
    · exact takeV h
  · split at h
    · rename_i b g
      exact ⟨_, λw' _ => by simp [g, Op.unary], h⟩
    · exact takeV h
  · unfold fieldS at h
    split at h
    · rename_i b o g
      split at h
      · rename_i d hd
        exact ⟨_, λw' _ => by rw [run_v, g, zJq H hd]; rfl, h⟩
      · exact takeV (by rw [g] at h; rw [g]; exact h)
    · exact takeV h
  · unfold nilS at h
    split at h
    · rename_i a V
      simp only [V];exact ⟨_, λw' _ => rfl, h⟩
    · exact h.elim
  · rename_i t i
    unfold extS at h;split at h
    · rename_i vs q
      rw [nth_eq] at h;split at h
      · rename_i v O
        have : vs[i]? = some v := by simpa using O
        exact ⟨v, λw' _ => by simp only [q, Instr.extract, this]; rfl, h⟩
      · exact h.elim
    · exact h.elim
  · rw [zBe, zBe] at h
    exact ⟨_, λw' _ => by simp [Instr.makeFunc], h⟩
  all_goals first | exact takeV h | (rw [zMC] at h; exact takeV h) | skip
  · rename_i c
    have G : ∀ b s, c.callee = .builtin b -> (∀ p, builtin b c.argTypes o.type p (c.args.map (ev F)) = (do let x <- s; pure (Next.value x))) ->
        (∃ v, (∀ w', Fr D w w' -> (do let x <- s; pure (Next.value x) : Sem Next).run P w' = .ok (.value v) w') /\ k v) ->
        ∃ v, (∀ w', Fr D w w' -> (do let d <- resolve (ev F) c o.type; invoke d.target d.args : Sem Next).run P w' = .ok (.value v) w') /\ k v := by
      intro b s I g h
      have : (do let d <- resolve (ev F) c o.type; invoke d.target d.args : Sem Next) = (do let x <- s; pure (Next.value x)) := by
        simp only [resolve, I, pure_bind, invoke];exact g _
      rw [this]; exact h
    split at h
    · rename_i b g
      split at h
      · split at h
        · rename_i x t K W
          have A : c.args = #[x] := by rw [<- Jz (xs := c.args), K]
          have C : c.argTypes = #[t] := by rw [<- Jz (xs := c.argTypes), W]
          unfold lenS at h;split at h
          · rename_i a n X q
            split at h
            · rename_i r
              obtain ⟨e, Q⟩ := Tab.slice H r;refine G _ (Builtin.len_ c.argTypes o.type (c.args.map (ev F))) g (λ_ => rfl) ⟨_, λw' _ => ?_, h⟩;rw [run_v, A, C]; simp only [Xi, QS, JP, q, zE3 Q];rfl
            · exact h.elim
          · rename_i s q
            split at h
            · rename_i r
              have Q := Tab.string H r;refine G _ (Builtin.len_ c.argTypes o.type (c.args.map (ev F))) g (λ_ => rfl) ⟨_, λw' _ => ?_, h⟩;rw [run_v, A, C]; simp only [Xi, QS, JP, q, zD2 Q];rfl
            · exact h.elim
          · rw [zBe] at h; exact G _ _ g (λ_ => rfl) (takeV h)
        · exact h.elim
      all_goals first
        | exact h.elim
        | (rw [zBe] at h; exact G _ _ g (λ_ => rfl) (takeV h))
    · exact h.elim
  all_goals exact h.elim
def drawStep (P : Program) (T : Tab) (n : Nat) (D : Nat -> Prop) (all : List Oper) (i : Nat) (ih : (Nat -> Value) -> ((Nat -> Value) -> World -> Prop) -> (List PanicEntry -> World -> Prop) -> World -> Prop)
    (F : Nat -> Value) (k : (Nat -> Value) -> World -> Prop) (pn : List PanicEntry -> World -> Prop) (w : World) : Prop :=
  match nth all i with
    | none => False
    | some o => match o.guard with
      | none => bif takeK o then takeS P T D o F (λv => putS n F o.dst v λF' => ih F' k pn w) w
          else opS P T o F (λv w' => Fr D w w' /\ putS n F o.dst v λF' => ih F' k pn w') pn w
      | some (j, want) => match nth all j with
        | some g => match g.dst with
          | some d => match F d with
            | .bool b => match Nat.blt d n with
              | true => match want with
                | true => condS b
                    (bif takeK o then takeS P T D o (upd F d (.bool true)) (λv => putS n (upd F d (.bool true)) o.dst v λF' => ih F' k pn w) w
                      else opS P T o (upd F d (.bool true)) (λv w' => Fr D w w' /\ putS n (upd F d (.bool true)) o.dst v λF' => ih F' k pn w') pn w)
                    (putS n (upd F d (.bool false)) o.dst undef λF' => ih F' k pn w)
                | false => condS b
                    (putS n (upd F d (.bool true)) o.dst undef λF' => ih F' k pn w)
                    (bif takeK o then takeS P T D o (upd F d (.bool false)) (λv => putS n (upd F d (.bool false)) o.dst v λF' => ih F' k pn w) w
                      else opS P T o (upd F d (.bool false)) (λv w' => Fr D w w' /\ putS n (upd F d (.bool false)) o.dst v λF' => ih F' k pn w') pn w)
              | false => False
            | .tuple _ => putS n F o.dst undef λF' => ih F' k pn w
            | _ => False
          | none => False
        | none => False
def drawS (P:Program) (T:Tab) (n:Nat) (D:Nat->Prop) (all:List Oper) (σ:List Nat):(Nat->Value)->((Nat->Value)->World->Prop)->(List PanicEntry->World->Prop)->World->Prop:=
 List.rec (motive:=λ_=>(Nat->Value)->((Nat->Value)->World->Prop)->(List PanicEntry->World->Prop)->World->Prop) (λF k _ w=>k F w) (λi _ ih=>drawStep P T n D all i ih) σ
theorem zNk(P:Program)(T:Tab)(n:Nat)(D:Nat->Prop)(b:List Oper)(i:Nat)(r:List Nat)(F:Nat->Value)(k:(Nat->Value)->World->Prop)(c:List PanicEntry->World->Prop)(w:World):
  drawS P T n D b (i::r) F k c w=drawStep P T n D b i (drawS P T n D b r) F k c w:=rfl
def noDefs (ops:Array Oper):Bool:=ops.all λo=>!isDef o.op
def ordB (ops:Array Oper):List Nat->Array Bool->Bool
 |[],listed=>(Region.ready .any ops listed).isEmpty
 |i::r,listed=>match ops[i]? with
  |none=>false
  |some o=>(bif takeK o then Region.free .any ops listed i && (Region.ready .any ops listed).contains i else Region.ready .any ops listed==[i]) && ordB ops r (listed.setIfInBounds i true)
def ordOK (ops:Array Oper) (σ:List Nat):Bool:=Region.noSelect ops && noDefs ops && (σ.length==ops.size) && ordB ops σ (Array.replicate ops.size false)
section
variable {ops:Array Oper} {Q:Exit->Act->World->Prop} {md:Region.Mode} {S:World->Prop} {r:Option Nat}
theorem zGy{ops:Array Oper}(h:noDefs ops=true){o:Oper}(b:ops[j]? = some o):∀c,o.op≠.defer c:=by
 intro c d;have:=(Array.all_eq_true'.1 h) o (Array.mem_of_getElem? b);rw [d] at this;cases this
theorem zE6{o:Oper}{v:Value}{a:Act}(b:noDefs ops=true)(hi:ops[i]? = some o)(d:YieldsIf P ops S o v a)
  {K:Act->World->Prop}{w:World}(e:S w)(h:K (a.put o.dst v) w):wpOpIn (fw r) 0 P ops Q i K a w:=by
 unfold Go.wpOpIn;simp only [hi];rcases d with ⟨c,f⟩|⟨c,rfl⟩
 ·simp only [c,if_true,Oper.wpIn,Yd _ _ _ (zGy b hi),f w e,Oper.uponIn];exact⟨λ_ _=>trivial,h⟩
 ·simp only [c,Jt,if_false];exact⟨λ_ _=>trivial,h⟩
theorem zMq{oi g:Oper}{v:Value}(z:noDefs ops=true)(H:ops[j]? = some g)(A:oi.apart ops g=true)
  (C:∀cs b,oi.op≠.select cs b)(E:∀cs b,g.op≠.select cs b)
  (F:∀c a w,Q (.panic c) (a.put oi.dst v) w->Q (.panic c) a w){K:Act->World->Prop}{a:Act}{w:World}
  (o:YieldsIf P ops S oi v a)(h:wpOpIn (fw r) 0 P ops Q j K (a.put oi.dst v) w):
  wpOpIn (fw r) 0 P ops Q j (λa' w'=>YieldsIf P ops S oi v a'/\K (a'.put oi.dst v) w') a w:=by
 obtain⟨I,q,J⟩:=Oper.apart_spec A
 have keep:∀(a:Act),YieldsIf P ops S oi v a->∀u,YieldsIf P ops S oi v (a.put g.dst u):=λa o u =>
  o.of_same (execOp_put oi C a g.dst u J) (wanted_put oi a g.dst u J)
 have t:=zGy z H;unfold wpOpIn at *;simp only [H] at *;rw [wanted_put g a oi.dst v I] at h;split
 ·rename_i G;simp only [G,if_true] at h;unfold Oper.wpIn at *;refine⟨λ_ _=>trivial,?_⟩;have h:=h.2;rw [Yd _ _ _ t,execOp_put g E a oi.dst v I] at h;rw [Yd _ _ _ t];generalize (execOp a.eval g).run P w=res at h ⊢
  cases res with
  |ok x w' =>
   cases x <;> simp only [Oper.uponIn] at h ⊢
   case value u=>exact⟨keep a o u,by rw [<-Xb a v u q];exact h⟩
   case skip=>exact⟨keep a o _,by rw [<-Xb a v undef q];exact h⟩
   case defer d =>
    have s:YieldsIf P ops S oi v { a with defers:=d::a.defers }:=o.of_same rfl rfl;refine⟨keep _ s _,?_⟩;rw [<-Xb _ v undef q,<-Act.put_defers];exact h
   case enter f args =>
    refine⟨h.1,CallsIn.mono h.2 λe y p=>?_⟩
    cases e with
    |returned u=>exact⟨keep a o u,by rw [<-Xb a v u q];exact p⟩
    |panicked c=>exact F _ _ _ p
    |outgrown=>exact p
   case row row args=>exact⟨h.1,RowsIn.mono h.2 λu y p=>⟨keep a o u,by rw [<-Xb a v u q];exact p⟩⟩
   case round l f tmps assign body =>
    refine⟨h.1,RoundIn.mono h.2 λe y p=>?_⟩
    cases e with
    |returned u=>exact⟨keep a o u,by rw [<-Xb a v u q];exact p⟩
    |panicked c=>exact F _ _ _ p
    |outgrown=>exact p
  |halt x w' =>
   cases x <;> simp only [Oper.uponIn] at h ⊢
   case panic u=>exact F _ _ _ h
 ·rename_i G;simp only [G] at h;exact⟨λ_ _=>trivial,keep a o _,by rw [<-Xb a v undef q];exact h.2⟩
def AnyH (P:Program) (r:Option Nat) (md:Region.Mode) (ops:Array Oper) (Q:Exit->Act->World->Prop) (S:World->Prop):Nat->Array Bool->Act->World->Prop
 |0,listed,a,w=>Region.ready md ops listed=[]/\Q .normal a w
 |fuel+1,listed,a,w =>
  (Region.ready md ops listed=[]->Q .normal a w) /\
  ∀i∈Region.ready md ops listed,wpOpIn (fw r) 0 P ops Q i (λa' w'=>S w'/\AnyH P r md ops Q S fuel (listed.setIfInBounds i true) a' w') a w
theorem zBJ:∀(fuel:Nat) (b:Array Bool) (a:Act) (w:World),AnyH P r md ops Q S fuel b a w->wpAnyIn (fw r) 0 P md ops Q fuel b a w
 |0,_,_,_,h=>h
 |fuel+1,_,_,_,h=>⟨h.1,λi hi=>wpOpIn_mono (λa' w' c=>zBJ fuel _ a' w' c.2) (h.2 i hi)⟩
theorem zNa{oi:Oper}{v:Value}(t:noDefs ops=true)(hi:ops[i]? = some oi)(q:∀(j:Nat) (o:Oper) cs b,ops[j]? = some o->o.op≠.select cs b)
  (V:∀c a w,Q (.panic c) (a.put oi.dst v) w->Q (.panic c) a w):
  ∀(f:Nat) (d:Array Bool) (a:Act) (w:World),
   (∀j x,ops[j]? = some x->j≠i->d.getD j true=false->(∀e∈x.after,Region.binds md e=true->e.on≠i)->oi.apart ops x=true) ->
   i∈Region.ready md ops d->YieldsIf P ops S oi v a->S w ->
   AnyH P r md ops Q S f (d.setIfInBounds i true) (a.put oi.dst v) w->AnyH P r md ops Q S (f+1) d a w:=by
 intro f
 induction f with
 |zero =>
  intro d a w _ y J C H;refine⟨λh=>(by rw [h] at y;cases y),λj K=>?_⟩;by_cases g:j=i
  ·subst g;exact zE6 t hi J C ⟨C,H⟩
  ·have:=ready_mono K g;rw [H.1] at this;cases this
 |succ f W =>
  intro d a w l y J C H;refine⟨λh=>(by rw [h] at y;cases y),λj K=>?_⟩;by_cases g:j=i
  ·subst g;exact zE6 t hi J C ⟨C,H⟩
  ·have z:=H.2 j (ready_mono K g);obtain⟨s,x,A,E⟩:=mem_ready.1 K
   have F:∀e∈x.after,Region.binds md e=true->e.on≠i:=λe X Y M=>by
    have z:=E e X Y;have h0:=(mem_ready.1 y).1;rw [M] at z;rcases QH i d.size with O|O
    ·simp [O] at h0 z;rw [h0] at z;cases z
    ·simp [Jn O] at z
   have Z:=zMq t A (l j x A g s F) (λcs b=>q i oi cs b hi) (λcs b=>q j x cs b A) V J z
   have p:∀k ok,ops[k]? = some ok->k≠i->(d.setIfInBounds j true).getD k true=false ->
     (∀e∈ok.after,Region.binds md e=true->e.on≠i)->oi.apart ops ok=true:=λk ok hk R G U=>by
    refine l k ok hk R ?_ U;by_cases I:j=k
    ·subst I;exact s
    ·rw [getD_set_ne true I] at G;exact G
   refine wpOpIn_mono (λa' w' L=>⟨L.2.1,W (d.setIfInBounds j true) a' w' p (ready_mono y (Jq g)) L.1 L.2.1 ?_⟩) Z;rw [Array.setIfInBounds_comm _ _ g];exact L.2.2
theorem zDm{oi:Oper}{v:Value}{d:Nat}{b:Array Bool}{a:Act}{w:World}(e:noDefs ops=true)(hi:ops[i]? = some oi)
  (f:Region.noSelect ops=true)(g:Region.free md ops b i=true)(l:(Region.ready md ops b).contains i=true)
  (o:∀c a w,Q (.panic c) (a.put oi.dst v) w->Q (.panic c) a w)(p:YieldsIf P ops S oi v a)(q:S w)
  (h:AnyH P r md ops Q S d (b.setIfInBounds i true) (a.put oi.dst v) w):AnyH P r md ops Q S (d+1) b a w:=
 zNa e hi (Region.noSelect_spec f) o d b a w (Region.free_spec hi g) (by simpa using l) p q h
theorem zBM{d:List Nat}{c:Nat}{b:Array Bool}{a:Act}{w:World}(f:Region.ready md ops b=d)(e:d≠[])
  (h:∀i∈d,wpOpIn (fw r) 0 P ops Q i (λa' w'=>S w'/\AnyH P r md ops Q S c (b.setIfInBounds i true) a' w') a w):AnyH P r md ops Q S (c+1) b a w:=
 ⟨λh0=>absurd (f ▸ h0) e,f ▸ h⟩
end
theorem zDH{r:Option Nat}{ops:Array Oper}{Q:Exit->Act->World->Prop}{A B:World->Prop}(h:∀w,A w->B w):∀(fuel:Nat) (b:Array Bool) (a:Act) (w:World),
  AnyH P r .any ops Q A fuel b a w->AnyH P r .any ops Q B fuel b a w
 |0,_,_,_,c=>c
 |fuel+1,_,_,_,c=>⟨c.1,λi hi=>wpOpIn_mono (λa' w' d=>⟨h _ d.1,zDH h fuel _ a' w' d.2⟩) (c.2 i hi)⟩
theorem zNY(hT:T.ok P=true){r:Option Nat}(D:Nat->Prop)(ops:Array Oper)(E:Nat->Value)(y:Nat->Bool)(a2:∀t,wrL ops.toList t=true->y t=true)(k:(Nat->Value)->World->Prop)(z:List PanicEntry->World->Prop)(hs:Region.noSelect ops=true)(U:noDefs ops=true):
  ∀(V:List Nat) (f:Array Bool) (F:Nat->Value) (w:World) (a:Act),Rel n F a->agree y E F->ordB ops V f=true->drawS P T n D ops.toList V F k z w ->
   AnyH P r .any ops (LQ n E y k (λ_=>z)) (Fr D w) V.length f a w:=by
 intro V
 induction V with
 |nil =>
  intro f F w a H h0 p h;exact⟨by simpa [ordB] using p,F,H,h0,h⟩
 |cons i rest ih =>
  intro f F w a H h0 p h;simp only [ordB] at p;rw [zNk] at h;unfold drawStep at h;rw [nth_eq] at h;split at h
  ·exact h.elim
  rename_i o Q;have hi:ops[i]? = some o:=by simpa using Q
  simp only [hi,Qz] at p
  have W:∀t,isD o.dst t=true->y t=true:=by
   intro t I;refine a2 t ?_;have X:o∈ops.toList:=Jy Q;clear Q hi h p;generalize ops.toList=l at X
   induction l with
   |nil=>cases X
   |cons x r a3 =>
    simp only [wrL,VV];rcases Ql.1 X with rfl|X
    ·exact .inl (by unfold wrO;rw [I];rfl)
    ·exact .inr (a3 X)
  have step:∀{G:Nat->Value} {v:Value} {w':World},Rel n G a->agree y E G->putS n G o.dst v (λA=>drawS P T n D ops.toList rest A k z w') ->
    AnyH P r .any ops (LQ n E y k (λ_=>z)) (Fr D w') rest.length (f.setIfInBounds i true) (a.put o.dst v) w':=by
   intro G v w' J q hp;obtain⟨A,L,S,h3⟩:=J.put hp
   exact ih _ A w' _ L (λt I=>by
    rw [S t (by cases hd:isD o.dst t;rfl;have:=W t hd;rw [I] at this;cases this),q t I]) p.2 h3
  have M:∀c (a:Act) (w:World) (v:Value),LQ n E y k (λ_=>z) (.panic c) (a.put o.dst v) w->LQ n E y k (λ_=>z) (.panic c) a w:=by
   intro c a w v K;simp only [LQ] at K ⊢;obtain⟨A,L,S,h3⟩:=K;have a4:(a.put o.dst v).tmps.size=a.tmps.size:=by cases hd:o.dst <;> simp [Act.put]
   have a5:(a.put o.dst v).defers=a.defers:=by cases hd:o.dst <;> simp [Act.put]
   refine⟨λt=>bif Nat.beq t 4294967296 then A 4294967296 else a.tmps.getD t undef,⟨by rw [<-a4];exact L.size,L.le,by rw [<-a5];exact L.defers,λt I=>?_⟩,λt I=>?_,h3⟩
   ·cases K:Nat.beq t 4294967296 with
    |false=>simp only [K,cond_false]
    |true=>exact absurd (QD K) I
   ·cases K:Nat.beq t 4294967296 with
    |true=>simp only [K,cond_true];rw [<-QD K];exact S t I
    |false =>
     simp only [K,cond_false];rw [<-S t I,<-L.get t (λe=>by subst e;simp at K)]
     cases hd:o.dst with
     |none=>rfl
     |some d =>
      have a6:d≠t:=by
       rintro rfl;have:=W d (by simp [isD,hd]);rw [I] at this;cases this
      simp [Act.put,Jr,V1,a6]
  have s:∀{G:Nat->Value},Rel n G a->agree y E G->Region.wanted o (yielded ops a.tmps)=true ->
    (bif takeK o then takeS P T D o G (λv=>putS n G o.dst v λA=>drawS P T n D ops.toList rest A k z w) w
     else opS P T o G (λv w'=>Fr D w w'/\putS n G o.dst v λA=>drawS P T n D ops.toList rest A k z w') z w) ->
    AnyH P r .any ops (LQ n E y k (λ_=>z)) (Fr D w) (i::rest).length f a w:=by
   intro G J q Y R
   cases Z:takeK o with
   |true =>
    simp only [Z,cond_true] at R p;rw [Qz] at p;obtain⟨v,L,S⟩:=zJw hT R;refine zDm U (i:=i) (oi:=o) (v:=v) hi hs p.1.1 p.1.2 (λc a w=>M c a w v) (.inl ⟨Y,λw' a7=>?_⟩) (Fr.refl D w) (step J q S);rw [J.eval];exact L w' a7
   |false =>
    simp only [Z,cond_false] at R p;have hr:Region.ready .any ops f=[i]:=by simpa using p.1
    refine zBM hr (by simp) (λj hj=>?_);obtain rfl:j=i:=by simpa using hj
    unfold wpOpIn;simp only [hi,Y,if_true];refine opS_wp hT R J (λv w' hv=>?_) (λc w' hc=>⟨G,J,q,hc⟩);exact⟨hv.1,zDH (λu hu=>hv.1.trans hu) _ _ _ _ (step J q hv.2)⟩
  have skip:∀{G:Nat->Value},Rel n G a->agree y E G->Region.wanted o (yielded ops a.tmps)=false->putS n G o.dst undef (λA=>drawS P T n D ops.toList rest A k z w) ->
    AnyH P r .any ops (LQ n E y k (λ_=>z)) (Fr D w) (i::rest).length f a w:=by
   intro G J q Y R
   cases Z:takeK o with
   |true =>
    simp only [Z,cond_true] at p;rw [Qz] at p;exact zDm U (i:=i) (oi:=o) (v:=undef) hi hs p.1.1 p.1.2 (λc a w=>M c a w undef) (.inr ⟨Y,rfl⟩) (Fr.refl D w) (step J q R)
   |false =>
    simp only [Z,cond_false] at p;have hr:Region.ready .any ops f=[i]:=by simpa using p.1
    refine zBM hr (by simp) (λj hj=>?_);obtain rfl:j=i:=by simpa using hj
    unfold wpOpIn;simp only [hi,Y];exact⟨λ_ _=>trivial,Fr.refl D w,step J q R⟩
  split at h
  ·rename_i hg;exact s H h0 (by simp [Region.wanted,hg]) h
  rename_i j a0 hg;rw [nth_eq] at h;split at h
  case h_2=>exact h.elim
  case h_1 g hgj =>
  split at h
  case h_2=>exact h.elim
  case h_1 d hd =>
  have O:d<n->yielded ops a.tmps j=match F d with | .bool b=>some b|_=>none:=by
   intro hdn;have C:ops[j]? = some g:=by simpa using hgj
   have:=H.get d (Nat.ne_of_lt (QJ hdn H.le));have hs:=H.size;simp only [yielded,C,VN,hd]
   have e:a.tmps[d]? = some (F d):=by
    rw [<-this,Jr];rw [QT (by rw [hs];exact hdn)];rfl
   rw [e];cases F d <;> simp
  split at h
  ·rename_i b hb;have hF:upd F d (.bool b)=F:=by rw [<-hb];exact zEO F d
   split at h
   case h_2=>exact h.elim
   case h_1 hdn =>
   have a1:d<n:=by simpa [Xe] using hdn
   have O:=O a1;simp only [hb] at O
   cases a0 <;> cases b <;> simp only [condS,hF] at h <;> first
    |exact s H h0 (by simp [Region.wanted,hg,O]) h
    |exact skip H h0 (by simp [Region.wanted,hg,O]) h
  ·rename_i vs hb
   have O:yielded ops a.tmps j=none:=by
    by_cases hdn:d<n
    ·rw [O hdn];simp only [hb]
    ·have C:ops[j]? = some g:=by simpa using hgj
     have e:a.tmps[d]? = none:=Jn (by rw [H.size];exact Yi hdn);simp only [yielded,C,VN,hd,e]
   exact skip H h0 (by simp [Region.wanted,hg,O]) h
  ·exact h.elim
def upF:Nat->Nat->List Nat
 |0,_=>[]
 |m+1,i=>i::upF m (i+1)
theorem drawR(o:T.ok P=true)(p:P.follows .mixedOrders=true)(D:Nat->Prop)(f:List Nat){ops:Array Oper}{Q:KS}{F:Nat->Value}{w:World}(d:ordOK ops f=true)
  (h:∀w',Stp w w'->w'.heap=w.heap->drawS P T n D ops.toList f F Q.nrm (λc w=>∀b,agree (wr (.region i ops true)) F b->Q.pan b c w) w'):DeepS P T n (.region i ops true) Q F w:=by
 rw [zAE];intro md q a s;simp only [ordOK,Qz] at d;have hd:=zNY o (r:=md) D ops F (wr (.region i ops true)) (λt v=>v) Q.nrm (λc w=>∀b,agree (wr (.region i ops true)) F b->Q.pan b c w) d.1.1.1 d.1.1.2 f (Array.replicate ops.size false) F _ a s (λ_ _=>rfl) d.2 (h _ ⟨Ext.drew w⟩ rfl);have e:f.length=ops.size:=by simpa using d.1.2
 rw [e] at hd;refine Jb ?_ (wpIn_region_any p (zBJ _ _ _ _ hd));intro e a' w' g;cases e <;> simp only [LQ] at g <;> simp only [KS.lift]
 ·exact g
 ·obtain⟨b,x,l,y⟩:=g;exact⟨b,x,l,y b l⟩
end
end Go.W
set_option linter.unusedSimpArgs false
namespace Go.W
open Go
variable {B N i j k m n:Nat} {D:Nat -> Prop} {P:Program} {a a':Option Addr} {u u' w':World}
section
variable {P:Program} {T:Tab} {n:Nat} {k k':Value->World->Prop} {pn pn':List PanicEntry->World->Prop} {w:World}
theorem zBj{s:Sem Value}(b:∀v w,k v w->k' v w)(d:∀c w,pn c w->pn' c w)(h:SemV P s k pn w):SemV P s k' pn' w:=by
 simp only [zC1] at *;generalize s.run P w=r at *
 cases r with
 |ok v w'=>exact b _ _ h
 |halt x w'=>cases x <;> first|exact d _ _ h|exact h
theorem zNS{s:Sem Unit}(b:∀v w,k v w->k' v w)(d:∀c w,pn c w->pn' c w)(h:SemU P s k pn w):SemU P s k' pn' w:=by
 simp only [zGS] at *;generalize s.run P w=r at *
 cases r with
 |ok v w'=>exact b _ _ h
 |halt x w'=>cases x <;> first|exact d _ _ h|exact h
theorem zHs{f:FuncId}{args:Array Value}(d:∀v w,k v w->k' v w)(g:∀c w,pn c w->pn' c w)(h:CallS P f args k pn w):CallS P f args k' pn' w:=by
 simp only [zBQ] at *;exact⟨h.1,h.2.mono λe w' b=>by cases e <;> first|exact d _ _ b|exact g _ _ b|exact b⟩
theorem zLC{l:Nat}{f:FuncId}{tmps:Array Value}{assign body:Code}(d:∀v w,k v w->k' v w)(g:∀c w,pn c w->pn' c w)(h:RoundS P l f tmps assign body k pn w):RoundS P l f tmps assign body k' pn' w:=
 ⟨h.out.mono λe w' b=>by cases e <;> first|exact d _ _ b|exact g _ _ b|exact b⟩
theorem zBw{s:Sem Next}(b:∀v w,k v w->k' v w)(d:∀c w,pn c w->pn' c w)(h:NextS P s k pn w):NextS P s k' pn' w:=by
 simp only [zBi] at *;generalize s.run P w=r at *
 cases r with
 |ok x w'=>cases x <;> first|exact b _ _ h|exact zHs b d h|exact zLC b d h|exact h
 |halt x w'=>cases x <;> first|exact d _ _ h|exact h
theorem zNW{d:BinOp}{x y:Int}{c b:Prop}(e:∀v w,k v w->k' v w)(g:c->b)(h:cmpS d x y k c w):cmpS d x y k' b w:=by
 cases d <;> simp only [cmpS] at * <;> first|exact⟨λp=>e _ _ (h.t p),λp=>e _ _ (h.f p)⟩|exact g h
theorem zKz{o:Oper}{F:Nat->Value}(b:∀v w,k v w->k' v w)(d:∀c w,pn c w->pn' c w)(h:opS P T o F k pn w):opS P T o F k' pn' w:=by
 unfold opS at *;split at h <;> rename_i g <;> (try simp only [g])
 ·exact b _ _ h
 ·exact b _ _ h
 ·unfold pickS at *;split at h
  ·split at h <;> exact b _ _ h
  ·exact h.elim
 ·unfold binS at *;split at h
  ·rename_i l m p q f r
   try simp only
   cases e:kindEq l p with
   |false=>simp only [e,cond_false] at h
   |true =>
    simp only [e,cond_true] at h ⊢;split at h <;> (try simp only [zDO,zEb,zC0] at *) <;> first|exact b _ _ h|exact⟨h.1,b _ _ h.2⟩|exact zNW b (zBj b d) h
  ·exact zBj b d h
 ·unfold unS at *;split at h
  ·exact b _ _ h
  ·exact zBj b d h
 ·unfold fieldS at *;split at h
  ·rename_i f
   try simp only [f]
   split at h
   ·exact b _ _ h
   ·exact zBj b d (by first|exact h|simpa only [f] using h)
  ·exact zBj b d h
 ·unfold extS at *;split at h
  ·split at h
   ·exact b _ _ h
   ·exact h.elim
  ·exact h.elim
 ·exact b _ _ h
 ·unfold callS at *;split at h
  ·unfold fnS at *;split at h
   ·exact zHs b d h
   ·exact zBw b d h
  ·exact zBw b d h
  ·split at h
   ·split at h
    ·unfold lenS at *;split at h
     ·split at h
      ·exact b _ _ h
      ·exact h.elim
     ·split at h
      ·exact b _ _ h
      ·exact h.elim
     ·exact zBw b d h
    ·exact h.elim
   all_goals first|exact zBj b d h|exact zBw b d h
 all_goals first|exact zBj b d h|exact zNS b d h|exact h.elim|(unfold nilS at *;split at h;exact b _ _ h;exact zBw b d h)|exact zBw b d h
theorem zOk{F:Nat->Value}{d:Option Nat}{v:Value}{q b:(Nat->Value)->Prop}(c:∀G,agree (isD d) F G->q G->b G)(h:putS n F d v q):putS n F d v b:=by
 cases d with
 |none=>exact c _ (λ_ _=>rfl) h
 |some d =>
  simp only [putS] at *;split at h
  ·refine c _ (λt e=>?_) h;simp only [isD] at e;simp [upd,e]
  ·exact h
theorem zOf(e : List Oper){q Q : (Nat -> Value) -> World -> Prop}{p M : (Nat -> Value) -> List PanicEntry -> World -> Prop} : ∀ (l : List Oper) (F : Nat -> Value) (w : World),
    (∀ G w, agree (wrL l) F G -> q G w -> Q G w) -> (∀ G c w, agree (wrL l) F G -> p G c w -> M G c w) -> opsS P T n e l F q p w -> opsS P T n e l F Q M w := by
  intro l
  induction l with
  | nil => intro F w O _ h; exact O _ _ (λ_ _ => rfl) h
  | cons o rest X =>
    intro F w O R h
    have step : ∀ {G : Nat -> Value} {v : Value} {w' : World}, agree (λ_ => false) F G -> putS n G o.dst v (λr => opsS P T n e rest r q p w') -> putS n G o.dst v (λr => opsS P T n e rest r Q M w') := by
      intro G v w' S hh
      have J : ∀ {K H : Nat -> Value}, agree (isD o.dst) G K -> agree (wrL rest) K H -> agree (wrL (o :: rest)) F H := by
        intro K H C y t I;simp only [wrL, wrO, QG] at I;rw [y t I.2, C t I.1.1, S t rfl]
      exact zOk (λK C hq => X K w' (λH s y x => O H s (J C y) x) (λH c s y x => R H c s (J C y) x) hq) hh
    have sw : ∀ {d : Nat} {b : Bool}, F d = .bool b -> agree (λ_ => false) F (upd F d (.bool b)) := by
      intro d b U t _;rw [<- U, zEO]
    have L : ∀ {G : Nat -> Value}, agree (λ_ => false) F G -> ∀ c w, p G c w -> M G c w := λS c w h => R _ c w (λt _ => S t rfl) h;by_cases E : ∃ c, o.op = .defer c
    · obtain ⟨c, Y⟩ := E
      simp only [zDy, opsStep, Y, defS] at h ⊢;split at h
      case h_2 => exact h.elim
      rename_i f hr V hd Z;split at h
      case h_2 => exact h.elim
      rename_i fn first cap hf
      have J : ∀ {H : Nat -> Value}, agree (wrL rest) (upd F 4294967296 (consD (.agg (.func fn first cap :: evL F c.args.toList).toArray) (F 4294967296))) H -> agree (wrL (o :: rest)) F H := by
        intro H y t I;simp only [wrL, wrO, Y, isDef, Bool.true_and, QG] at I;rw [y t I.2]; unfold upd; rw [I.1.2]; rfl
      exact X _ w (λH s y x => O H s (J y) x) (λH c s y x => R H c s (J y) x) h
    have z : ∀ (q : (Nat -> Value) -> World -> Prop) (p : (Nat -> Value) -> List PanicEntry -> World -> Prop), opsStep P T n e o (opsS P T n e rest) F q p w = (match o.guard with
      | none => opS P T o F (λv w' => putS n F o.dst v λr => opsS P T n e rest r q p w') (p F) w
      | some (j, A) => match nth e j with
        | some g => match g.dst with
          | some d => match F d with
            | .bool b => match Nat.blt d n with
              | true => match A with
                | true => condS b (opS P T o (upd F d (.bool true)) (λv w' => putS n (upd F d (.bool true)) o.dst v λr => opsS P T n e rest r q p w') (p (upd F d (.bool true))) w)
                    (putS n (upd F d (.bool false)) o.dst undef λr => opsS P T n e rest r q p w)
                | false => condS b (putS n (upd F d (.bool true)) o.dst undef λr => opsS P T n e rest r q p w)
                    (opS P T o (upd F d (.bool false)) (λv w' => putS n (upd F d (.bool false)) o.dst v λr => opsS P T n e rest r q p w') (p (upd F d (.bool false))) w)
              | false => False
            | .tuple _ => putS n F o.dst undef λr => opsS P T n e rest r q p w
            | _ => False
          | none => False
        | none => False) := by
      intro q p;unfold opsStep;cases ho : o.op <;> first | rfl | exact absurd ⟨_, ho⟩ E
    rw [zDy, z] at h ⊢;clear z
    cases V : o.guard with
    | none => simp only [V] at *; exact zKz (λv w' W => step (λ_ _ => rfl) W) (L λ_ _ => rfl) h
    | some jw =>
      obtain ⟨j, A⟩ := jw;simp only [V] at *
      cases hj : nth e j with
      | none => simp only [hj] at h
      | some g =>
        simp only [hj] at h ⊢
        cases hd : g.dst with
        | none => simp only [hd] at h
        | some d =>
          simp only [hd] at h ⊢;cases hF : F d <;> simp only [hF] at h ⊢
          case bool b =>
            cases U : Nat.blt d n <;> simp only [U] at h ⊢;have := sw hF
            cases A <;> cases b <;> simp only [condS] at h ⊢ <;> first
              | exact zKz (λv w' W => step this W) (L this) h
              | exact step this h
          case tuple vs => exact step (λ_ _ => rfl) h
theorem S_mono:∀(c:Code) (Q f:KS) (F:Nat->Value) (w:World),S P T n c Q F w ->
  (∀G w,agree (wr c) F G->Q.nrm G w->f.nrm G w)->(∀i G w,agree (wr c) F G->Q.ext i G w->f.ext i G w)->(∀G w,agree (wr c) F G->Q.ret G w->f.ret G w)->(∀G p w,agree (wr c) F G->Q.pan G p w->f.pan G p w) ->
  S P T n c f F w:=by
 have deep:∀(c:Code) (Q f:KS) (F:Nat->Value) (w:World),DeepS P T n c Q F w ->
  (∀G w,agree (wr c) F G->Q.nrm G w->f.nrm G w)->(∀i G w,agree (wr c) F G->Q.ext i G w->f.ext i G w)->(∀G w,agree (wr c) F G->Q.ret G w->f.ret G w)->(∀G p w,agree (wr c) F G->Q.pan G p w->f.pan G p w) ->
  DeepS P T n c f F w:=by
  intro c Q f F w h g o q r;simp only [zAE] at *;intro md K a O;exact Jb (zDv (λG w _ d v=>⟨d,g G w d v⟩) (λi G w d v=>⟨d,o i G w d v⟩) (λG w d v=>⟨d,q G w d v⟩) (λG c w d v=>⟨d,r G c w d v⟩)) (h md K a O)
 intro c
 induction c with
 |skip=>intro Q f F w h g _ _ _;exact g _ _ (λ_ _=>rfl) h
 |label l=>intro Q f F w h g _ _ _;exact g _ _ (λ_ _=>rfl) h
 |ret=>intro Q f F w h _ _ q _;exact q _ _ (λ_ _=>rfl) h
 |exit i=>intro Q f F w h _ o _ _;exact o _ _ _ (λ_ _=>rfl) h
 |region i ops J =>
  intro Q f F w h g o q r
  cases J with
  |false=>simp only [S_skip,zAN,S_ret,S_exit,S_seq,S_cond,zAM,zAO,zAz,S_draw,S_loop,zAi,S_goto,zAy] at *;exact zOf _ _ _ _ g r h
  |true=>simp only [S_skip,zAN,S_ret,S_exit,S_seq,S_cond,zAM,zAO,zAz,S_draw,S_loop,zAi,S_goto,zAy] at *;exact deep _ _ _ _ _ h g o q r
 |seq x y E I =>
  intro Q f F w h g o q r;simp only [S_skip,zAN,S_ret,S_exit,S_seq,S_cond,zAM,zAO,zAz,S_draw,S_loop,zAi,S_goto,zAy] at *;have C:∀{G:Nat->Value},agree (wr x) F G->agree (wr (.seq x y)) F G:=λd t s=>by simp only [wr,QG] at s;exact d t s.1
  have z:∀{G H:Nat->Value},agree (wr x) F G->agree (wr y) G H->agree (wr (.seq x y)) F H:=λd e t s=>by simp only [wr,QG] at s;rw [e t s.2,d t s.1]
  refine E _ _ F w h ?_ (λi G w d=>o i G w (C d)) (λG w d=>q G w (C d)) (λG p w d=>r G p w (C d));intro G w' d R;exact I _ _ G w' R (λH w e=>g H w (z d e)) (λi H w e=>o i H w (z d e)) (λH w e=>q H w (z d e)) (λH p w e=>r H p w (z d e))
 |cond c x y E I =>
  intro Q f F w h g o q r;simp only [S_skip,zAN,S_ret,S_exit,S_seq,S_cond,zAM,zAO,zAz,S_draw,S_loop,zAi,S_goto,zAy] at *;have C:∀{G:Nat->Value},agree (wr x) F G->agree (wr (.cond c x y)) F G:=λd t s=>by simp only [wr,QG] at s;exact d t s.1
  have A:∀{G:Nat->Value},agree (wr y) F G->agree (wr (.cond c x y)) F G:=λd t s=>by simp only [wr,QG] at s;exact d t s.2
  split at h
  ·rename_i b M;cases b
   ·exact I _ _ F w h (λH w e=>g H w (A e)) (λi H w e=>o i H w (A e)) (λH w e=>q H w (A e)) (λH p w e=>r H p w (A e))
   ·exact E _ _ F w h (λH w e=>g H w (C e)) (λi H w e=>o i H w (C e)) (λH w e=>q H w (C e)) (λH p w e=>r H p w (C e))
  ·exact h.elim
 |block i c L =>
  intro Q f F w h g o q r;simp only [S_skip,zAN,S_ret,S_exit,S_seq,S_cond,zAM,zAO,zAz,S_draw,S_loop,zAi,S_goto,zAy] at *;refine L _ _ F w h g ?_ q r;intro j G w' d v;cases M:Nat.beq j i <;> simp only [M] at v ⊢
  ·exact o j G w' d v
  ·exact g G w' d v
 |scope c L=>intro Q f F w h g o q r;simp only [S_skip,zAN,S_ret,S_exit,S_seq,S_cond,zAM,zAO,zAz,S_draw,S_loop,zAi,S_goto,zAy] at *;exact L _ _ F w h g o q r
 |_=>intro Q f F w h g o q r;simp only [S_skip,zAN,S_ret,S_exit,S_seq,S_cond,zAM,zAO,zAz,S_draw,S_loop,zAi,S_goto,zAy] at *;exact deep _ _ _ _ _ h g o q r
theorem cutL(m:Nat)(b slots:List Nat)(I:List Value->World->Prop){c x y:Code}{Q:KS}{F:Nat->Value}(f:c=.seq x y)(e:okB m b slots x=true)
  (o:S P T n x { Q with nrm:=λp w'=>I (mapF p slots) w' } F w)
  (q:∀vs g w',vs.length=slots.length->I vs w'->S P T n y Q (hdF m b (zipS slots vs) g F) w'):S P T n c Q F w:=by
 subst f;have d:∀(G:Nat->Value) l,(mapF G l).length=l.length:=by intro G l;induction l <;> simp_all [mapF]
 refine S_mono x _ _ F w o ?_ (λ_ _ _ _ h=>h) (λ_ _ _ h=>h) (λ_ _ _ _ h=>h);intro G w' r s;have:=q (mapF G slots) G w' (d G slots) s
 rwa [zEq e r] at this
theorem cut0(m:Nat)(b:List Nat)(I:World->Prop){c x y:Code}{Q:KS}{F:Nat->Value}(e:c=.seq x y)(d:okB m b [] x=true)
  (f:S P T n x { Q with nrm:=λ_ w'=>I w' } F w)(h:∀g w',I w'->S P T n y Q (hdF m b [] g F) w'):S P T n c Q F w:=
 cutL m b [] (λ_ w=>I w) e d f λvs g w' _ l=>by simpa [zipS] using h g w' l
end
class Enc (α:Type) where
 sz:Nat
 enc:α->List Value
 len:∀x,(enc x).length=sz
 one:∀x,∀u∈enc x,u.oneCell'=true
 pos:0<sz
open Enc (enc)
instance:Enc Int:=⟨1,λx=>[.int .i64 x],λ_=>rfl,by intro x u hu;simp at hu;subst hu;rfl,by decide⟩
instance:Enc Bool:=⟨1,λx=>[.bool x],λ_=>rfl,by intro x u hu;simp at hu;subst hu;rfl,by decide⟩
instance:Enc ByteArray:=⟨1,λx=>[.string x],λ_=>rfl,by intro x u hu;simp at hu;subst hu;rfl,by decide⟩
structure SV where
 a:Option Addr
 n:Nat
 c:Nat
def SV.v (s:SV):Value:=.slice s.a s.n s.c
instance:Enc SV:=⟨1,λx=>[.slice x.a x.n x.c],λ_=>rfl,by intro x u hu;simp at hu;subst hu;rfl,by decide⟩
section
variable {α:Type} [Enc α]
def flat (l:List α):List Value:=l.flatMap enc
@[simp] theorem flat_nil:flat ([]:List α)=[]:=rfl
@[simp] theorem flat_cons (x:α) (l:List α):flat (x::l)=enc x++flat l:=rfl
@[simp] theorem flat_append (l m:List α):flat (l++m)=flat l++flat m:=by simp [flat]
theorem zAl(l:List α):(flat l).length=l.length*Enc.sz α:=by
 induction l with
 |nil=>simp
 |cons x r b=>simp [b,Enc.len,Jo,Xv]
theorem zC7(l:List α):∀u∈flat l,u.oneCell'=true:=by
 intro u b;obtain⟨x,_,c⟩:=VP.1 b;exact Enc.one x u c
theorem zCs(l:List α)(i:Nat):flat (l.drop i)=(flat l).drop (i*Enc.sz α):=by
 induction l generalizing i with
 |nil=>simp
 |cons x r b =>
  cases i with
  |zero=>simp
  |succ i =>
   simp only [List.drop_succ_cons,b,flat_cons];rw [List.drop_append,Enc.len,XG (l:=enc x) (by rw [Enc.len,Jo];omega)];simp [Jo]
theorem zCt(l:List α)(i:Nat):flat (l.take i)=(flat l).take (i*Enc.sz α):=by
 induction l generalizing i with
 |nil=>simp
 |cons x r b =>
  cases i with
  |zero=>simp
  |succ i =>
   simp only [Vd,b,flat_cons];rw [XI,Enc.len,Qj (l:=enc x) (by rw [Enc.len,Jo];omega)];simp [Jo]
theorem zKi(l:List α){x:α}(h:l[i]? = some x):((flat l).drop (i*Enc.sz α)).take (Enc.sz α)=enc x:=by
 rw [<-zCs];have hi:=Qy.1 h;obtain⟨b,rfl⟩:=hi;rw [JS b,flat_cons,XI,Enc.len];simp [Qj (l:=enc l[i]) (by rw [Enc.len];exact Qe _)]
theorem flat_set(l:List α)(x:α)(h:i<l.length):(flat l).take (i*Enc.sz α)++enc x++(flat l).drop (i*Enc.sz α+Enc.sz α)=flat (l.set i x):=by
 rw [<-zCt,show i*Enc.sz α+Enc.sz α=(i+1)*Enc.sz α by rw [Jo,Nat.one_mul],<-zCs];rw [Vn,if_pos h];simp [flat_append]
def SlF (w:World) (v:Value) (l:List α):Prop:=
 ∃a c,v=.slice a l.length c/\l.length<=c/\(l=[]\/∃b o,a=some ⟨b,o,none⟩/\At w b o (flat l))
theorem SlF.shape{w:World}{v:Value}{l:List α}(h:SlF w v l):∃a c,v=.slice a l.length c:=by obtain⟨a,c,h,_⟩:=h;exact⟨a,c,h⟩
theorem SlF.ext{w:World}{v:Value}{l:List α}(h:SlF w v l)(e:Ext w w'):SlF w' v l:=by
 obtain⟨a,c,f,g,h⟩:=h;exact⟨a,c,f,g,h.imp id λ⟨b,o,p,d⟩=>⟨b,o,p,d.ext e⟩⟩
theorem SlF.up{w:World}[h:Le w w']{v:Value}{l:List α}(a:SlF w v l):SlF w' v l:=a.ext h.e
theorem SlF.nil(w:World):SlF w (.slice none 0 0) ([]:List α):=⟨none,0,rfl,Qe _,.inl rfl⟩
theorem SlF.nil'(w:World)(a:Option Addr)(c:Nat):SlF w (.slice a 0 c) ([]:List α):=⟨a,c,rfl,XE _,.inl rfl⟩
def Value.blk:Value->Option Nat
 |.slice (some a) _ _=>some a.block
 |_=>none
theorem SlF.fr{w:World}{v:Value}{l:List α}(h:SlF w v l)(f:Fr D w w')(hd:∀b,Value.blk v=some b->¬D b):SlF w' v l:=by
 obtain⟨a,c,rfl,g,h⟩:=h;refine⟨a,c,rfl,g,h.imp id λ⟨b,o,e,d⟩=>⟨b,o,e,d.fr f ?_⟩⟩;subst e;exact hd b rfl
theorem SlF.lt{w:World}{v:Value}{l:List α}(h:SlF w v l)(e:l≠[]):∃b,Value.blk v=some b/\b<w.heap.size:=by
 obtain⟨a,c,rfl,f,h⟩:=h;rcases h with h|⟨b,o,rfl,d⟩
 ·exact absurd h e
 ·refine⟨b,rfl,?_⟩
  cases l with
  |nil=>exact absurd rfl e
  |cons x r =>
   have:=Enc.len x;have g:=Enc.pos (α:=α)
   have h0:(flat (x::r))[0]? = some ((enc x)[0]'(by omega)):=by
    rw [flat_cons,VL (by omega)];simp
   exact XA w _ (d 0 _ h0)
theorem SlF.len{w:World}{c:Nat}{l:List α}(h:SlF w (.slice a n c) l):n=l.length:=by obtain⟨a',d,b,_⟩:=h;cases b;rfl
theorem SlF.at{w:World}{c:Nat}{l:List α}(h:SlF w (.slice a n c) l){x:α}(hi:l[i]? = some x):
  n=l.length/\∃b o,a=some ⟨b,o,none⟩/\At w b (o+i*Enc.sz α) (enc x):=by
 obtain⟨a',g,e,_,h⟩:=h;cases e;refine⟨rfl,?_⟩;rcases h with rfl|⟨b,o,f,d⟩
 ·simp at hi
 ·refine⟨b,o,f,?_⟩;rw [<-zKi l hi];exact d.sub _ _
theorem SlF.part{w:World}{c:Nat}{l:List α}(h:SlF w (.slice a n c) l)(lo hi:Nat)(p:lo<=hi)(q:hi<=n):
  SlF w (.slice (if c=lo then a else a.map (·.add (lo*Enc.sz α))) (hi - lo) (c - lo)) ((l.drop lo).take (hi - lo)):=by
 obtain⟨a',r,g,s,h⟩:=h;cases g;have d:((l.drop lo).take (hi - lo)).length=hi - lo:=by simp;omega
 refine⟨_,_,by rw [d],by rw [d];omega,?_⟩;rcases h with rfl|⟨b,o,rfl,e⟩
 ·left;simp
 ·by_cases f:c=lo
  ·left;apply Qn;rw [d];omega
  ·right;refine⟨b,o+lo*Enc.sz α,by simp [f,zAs],?_⟩;rw [zCt,zCs];exact e.sub _ _
def Own (B:Nat) (e:TypeId) (w:World) (v:Value) (l:List α):Prop:=
 (l=[]/\∃a,v=.slice a 0 0)\/w.ownsRow B e (Enc.sz α) v l.length (flat l)
def ownD (B:Nat) (v:Value):Nat->Prop:=λb=>B<=b/\Value.blk v=some b/\∀a,v≠.slice a 0 0
theorem Own.nil(B:Nat)(e:TypeId)(w:World):Own B e w (.slice none 0 0) ([]:List α):=.inl ⟨rfl,_,rfl⟩
theorem Own.nil'(B:Nat)(e:TypeId)(w:World)(a:Option Addr):Own B e w (.slice a 0 0) ([]:List α):=.inl ⟨rfl,_,rfl⟩
theorem Own.sl{e:TypeId}{w:World}{v:Value}{l:List α}(h:Own B e w v l):SlF w v l:=by
 rcases h with ⟨rfl,a,rfl⟩|h
 ·exact SlF.nil' w a 0
 ·rcases h.2 with ⟨rfl,o⟩|⟨g,cap,d,rfl,s,p,f,q,r,b⟩
  ·have:l=[]:=Qn o;subst this;exact SlF.nil w
  ·refine⟨_,_,rfl,f,.inr ⟨g,0,rfl,?_⟩⟩;intro j v c;rw [cell_of_row w g (0+j) d e (0,0) p];rw [<-b,Vh] at c;split at c
   ·simpa using c
   ·cases c
theorem Own.fr{e:TypeId}{w:World}{v:Value}{l:List α}(h:Own B e w v l)(f:Fr D w w')(hd:∀b,B<=b->Value.blk v=some b->¬D b):Own B e w' v l:=by
 rcases h with h|h
 ·exact .inl h
 ·refine .inr ⟨h.1,?_⟩;rcases h.2 with o|⟨g,cap,c,rfl,d,p,rest⟩
  ·exact .inl o
  ·exact .inr ⟨g,cap,c,rfl,d,f.blk p (hd g d rfl),rest⟩
theorem Own.not0{e:TypeId}{w:World}{v:Value}{l:List α}(h:Own B e w v l)(b:l≠[])(a:Option Addr):v≠.slice a 0 0:=by
 intro c;subst c;obtain⟨a',f,d⟩:=h.sl.shape;injection d with _ h2 _;exact b (Qn h2.symm)
theorem Own.wr{B':Nat}{e:TypeId}{w:World}{v:Value}{l:List α}(h:Own B e w v l){b:Nat}(c:ownD B' v b):b<w.heap.size:=by
 rcases h with ⟨rfl,a,rfl⟩|h
 ·exact absurd rfl (c.2.2 a)
 ·rcases h.2 with ⟨rfl,o⟩|⟨g,cap,d,rfl,_,f,rest⟩
  ·cases c.2.1
  ·have:=c.2.1;simp only [Value.blk] at this;cases this;exact blk_lt f
theorem Own.ext{e:TypeId}{w:World}{v:Value}{l:List α}(h:Own B e w v l)(b:Ext w w'):Own B e w' v l:=h.fr b λ_ _ _ h=>h
theorem Own.mono{B':Nat}{e:TypeId}{w:World}{v:Value}{l:List α}(h:Own B e w v l)(d:B'<=B):Own B' e w v l:=by
 rcases h with h|h
 ·exact .inl h
 ·refine .inr ⟨h.1,h.2.imp id ?_⟩;rintro⟨g,cap,b,c,f,rest⟩;exact⟨g,cap,b,c,by omega,rest⟩
theorem Own.up{e:TypeId}{w:World}[h:Le w w']{v:Value}{l:List α}(a:Own B e w v l):Own B e w' v l:=a.ext h.e
theorem Own.older{e:TypeId}{w:World}[h:Le u' u]{v:Value}{l:List α}(a:Own u.heap.size e w v l):Own u'.heap.size e w v l:=a.mono h.e.size
theorem Own.lt{e:TypeId}{w:World}{v:Value}{l:List α}(h:Own B e w v l)(b:l≠[]):∃g,Value.blk v=some g/\B<=g/\g<w.heap.size:=by
 rcases h with ⟨h,_⟩|h
 ·exact absurd h b
 ·rcases h.2 with ⟨_,c⟩|⟨g,cap,d,rfl,f,o,rest⟩
  ·exact absurd (Qn c) b
  ·exact⟨g,rfl,f,blk_lt o⟩
section
variable {P:Program} {k:Value->World->Prop} {pn:List PanicEntry->World->Prop} {w:World}
theorem rix{t e:TypeId}{z:Value}{d:Nat}[g:SlT P t e][p:Elem P e z (Enc.sz α) d]{c:Nat}{l:List α}{x:α}(h:SlF w (.slice a n c) l)(hi:l[i]? = some x)
  (q:∀b o,At w b o (enc x)->k (.pointer (some ⟨b,o,none⟩)) w):SemV P (Instr.indexAt t (.slice a n c) (.int .i64 i)) k pn w:=by
 obtain⟨rfl,b,o,rfl,f⟩:=h.at hi;have r:i<l.length:=(Qy.1 hi).1;exact SemV.of (zD1 g p (by omega) (by omega) w) (q _ _ f)
theorem tix{t e:TypeId}{z:Value}{d:Nat}[g:SlT P t e][p:Elem P e z (Enc.sz α) d]{k:Value->Prop}{c:Nat}{l:List α}{x:α}(h:SlF w (.slice a n c) l)(hi:l[i]? = some x)
  (q:∀b o,At w b o (enc x)->Value.blk (.slice a n c)=some b->k (.pointer (some ⟨b,o,none⟩))):TakeS P (Instr.indexAt t (.slice a n c) (.int .i64 i)) D k w:=by
 obtain⟨rfl,b,o,rfl,f⟩:=h.at hi;have r:i<l.length:=(Qy.1 hi).1;rw [zAe];exact⟨_,λw' _=>zD1 g p (by omega) (by omega) w',q _ _ f rfl⟩
theorem tload1{t:TypeId}[d:One P t]{k:Value->Prop}{b o:Nat}{v:Value}(h:w.cell? ⟨b,o,none⟩=some v)(hd:¬D b)(e:k v):TakeS P (Instr.loadAt t (.pointer (some ⟨b,o,none⟩))) D k w:=by
 rw [zAe];exact⟨v,λw' c=>by simp [Instr.loadAt,Instr.sureAddr,zDC d (c.cell h hd)],e⟩
theorem tloadA{t:Nat}[d:Agg P t n]{k:Value->Prop}{b o:Nat}{cs:List Value}(h:At w b o cs)(e:cs.length=n)(hd:¬D b)(f:k (.agg cs.toArray)):TakeS P (Instr.loadAt t (.pointer (some ⟨b,o,none⟩))) D k w:=by
 rw [zAe];exact⟨_,λw' c=>by simp [Instr.loadAt,Instr.sureAddr,zFM d (h.fr c hd) e],f⟩
def loV:Option Nat->Option Value
 |none=>none
 |some n=>some (.int .i64 n)
theorem zA0{t e:TypeId}{z:Value}{sz b:Nat}(g:SlT P t e)(l:Elem P e z sz b){c:Nat}(lo hi:Option Nat)(d:lo.getD 0<=hi.getD n)(f:hi.getD n<=c)(w:World):
  (Instr.sliceAt t (.slice a n c) (loV lo) (loV hi) none).run P w=.ok (.slice (if c=lo.getD 0 then a else a.map (·.add (lo.getD 0*sz))) (hi.getD n - lo.getD 0) (c - lo.getD 0)) w:=by
 obtain⟨j,o,_,p,_⟩:=info_parts l.h
 cases lo <;> cases hi <;> simp only [JQ,QP] at d f <;>
  simp [Instr.sliceAt,Instr.slice,Instr.sliceBounds,Instr.sliceBound,loV,underlying,g.h,asIntOf,sizeOf,typeInfo,o,p,d,f]
theorem rsl{t e:TypeId}{z:Value}{b:Nat}[g:SlT P t e][o:Elem P e z (Enc.sz α) b]{c:Nat}{l:List α}(lo hi:Option Nat)(h:SlF w (.slice a n c) l)(f:lo.getD 0<=hi.getD n)(p:hi.getD n<=n)
  (q:∀a' d,SlF w (.slice a' (hi.getD n - lo.getD 0) d) ((l.drop (lo.getD 0)).take (hi.getD n - lo.getD 0))->k (.slice a' (hi.getD n - lo.getD 0) d) w):SemV P (Instr.sliceAt t (.slice a n c) (loV lo) (loV hi) none) k pn w:=by
 have r:n<=c:=by obtain⟨a',d,s,v,_⟩:=h;cases s;exact v
 exact SemV.of (zA0 g o lo hi f (by omega) w) (q _ _ (h.part _ _ f p))
theorem tsl{t e:TypeId}{z:Value}{b:Nat}[g:SlT P t e][o:Elem P e z (Enc.sz α) b]{k:Value->Prop}{c:Nat}{l:List α}(lo hi:Option Nat)(h:SlF w (.slice a n c) l)(f:lo.getD 0<=hi.getD n)(p:hi.getD n<=n)
  (q:∀a' d,SlF w (.slice a' (hi.getD n - lo.getD 0) d) ((l.drop (lo.getD 0)).take (hi.getD n - lo.getD 0))->k (.slice a' (hi.getD n - lo.getD 0) d)):TakeS P (Instr.sliceAt t (.slice a n c) (loV lo) (loV hi) none) D k w:=by
 have r:n<=c:=by obtain⟨a',d,s,v,_⟩:=h;cases s;exact v
 rw [zAe];exact⟨_,λw' _=>zA0 g o lo hi f (by omega) w',q _ _ (h.part _ _ f p)⟩
theorem zIG{t ty e:TypeId}{z:Value}{sz f:Nat}(A:SlT P t e)(he:Elem P e z sz f)(L:Enc.sz α=sz)(p:z.cells.size=sz){v x:Value}{l m:List α}
  (d:Own B e w v l)(hS:SlF w x m)(M:(l.length+m.length)*f<=140737488355328)(G:l.length+m.length<=maxLen)(O:B<=w.heap.size):
  ∃C w',(Builtin.append_ #[t,t] ty #[v,x]).run P w=.ok C w'/\Own B e w' C (l++m)/\Fr (ownD B v) w w':=by
 obtain⟨i,hi,Q,H,q⟩:=info_parts he.h;subst L;have hp:=Enc.pos (α:=α);obtain⟨R,S,rfl,a1,T⟩:=hS;by_cases s:m=[]
 ·subst s;rw [QE];refine⟨v,w,?_,d,Fr.refl _ w⟩;rcases d with ⟨rfl,a,rfl⟩|d
  ·cases R <;> cases a <;> simp [Builtin.append_,run_underlying A.h,sizeOf,typeInfo,hi,Builtin.lenOf,Builtin.firstCells,loadCells,loadCellsFrom,storeCells]
  ·rcases d.2 with ⟨rfl,hn⟩|⟨g,cap,I,rfl,a2,hg,U,_⟩
   ·cases R <;> simp [Builtin.append_,run_underlying A.h,sizeOf,typeInfo,hi,Builtin.lenOf,Builtin.firstCells,loadCells,loadCellsFrom]
   ·cases R <;> simp [Builtin.append_,run_underlying A.h,sizeOf,typeInfo,hi,Builtin.lenOf,Builtin.firstCells,U,storeCells,loadCells,loadCellsFrom]
 rcases T with T|⟨b,o,rfl,V⟩
 ·exact absurd T s
 have c:∀j u,(flat m)[j]? = some u->w.cell? ((⟨b,o,none⟩:Addr).add j)=some u:=λj u J=>by rw [zAs];exact V j u J
 have E:(flat m).length=m.length*Enc.sz α:=zAl m
 have d:(l=[]/\∃a,v=.slice a 0 0)\/(w.ownsRow B e (Enc.sz α) v l.length (flat l)/\∀a,v≠.slice a 0 0):=by
  by_cases W:∃a,v=.slice a 0 0
  ·left;obtain⟨a,rfl⟩:=W;obtain⟨a',c',H⟩:=d.sl.shape;refine⟨Qn ?_,a,rfl⟩;injection H with _ K _;exact K.symm
  ·rcases d with h|h
   ·exact absurd h.2 W
   ·exact .inr ⟨h,λa ha=>W ⟨a,ha⟩⟩
 rcases d with ⟨rfl,a,rfl⟩|⟨d,X⟩
 ·cases a with
  |none =>
   obtain⟨C,w',Y,K,Z,_⟩:=run_append_own (P:=P) w B t ty e i z (Enc.sz α) f A.h hi Q H q p hp _ 0 [] (World.ownsRow_nil w B e (Enc.sz α)) ⟨b,o,none⟩ m.length S (flat m) E c (zC7 m) (by simpa using G) (by simpa using M) O;refine⟨C,w',Y,.inr (by simpa using K),(Fr.grown Z λr o F=>by simp [Value.ownBlock] at F).mono λj _ J=>?_⟩;simp [Value.ownBlock] at J
  |some a =>
   have a3:0<m.length:=by cases m;exact absurd rfl s;simp
   have F:=run_append_grow (P:=P) w t ty e i z A.h hi Q a 0 0 [] (by simp) (by simp) ⟨b,o,none⟩ m.length S (flat m) (by rw [E,H]) c (by omega) (by simp only [maxLen] at G;simp at G;omega)
    (by rw [q];exact growslice_fits (by omega) (by simpa using M))
   refine⟨_,_,F,.inr ⟨by simpa using E,.inr ⟨w.heap.size,grownCap w (0+m.length) 0 e,_,by simp,O,heap_alloc_new w.drew _,?_,?_,?_,?_⟩⟩,(show Ext w w.drew from ⟨rfl,rfl,rfl,Qe _,λ_ _ _=>rfl,λ_ _ h _=>h⟩).t (Ext.alloc w.drew _) |>.fr⟩
   ·have:=grownCap_ge w (0+m.length) 0 e;simpa using this
   ·exact grownCap_le_maxLen w _ 0 e (by simpa using G)
   ·have a0:=grownCap_ge w (0+m.length) 0 e;simp only [Array.size_append,List.size_toArray,size_zeroCells,p,E,QZ,JO,<-Jo] at a0 ⊢;congr 1;omega
   ·simp only [Array.toList_append,Je,JO];rw [<-E];exact V6
 ·obtain⟨C,w',Y,K,Z,_⟩:=run_append_own (P:=P) w B t ty e i z (Enc.sz α) f A.h hi Q H q p hp v l.length (flat l) d ⟨b,o,none⟩ m.length S (flat m) E c (zC7 m) G M O;refine⟨C,w',Y,.inr (by simpa using K),(Fr.grown Z λr o F ho=>?_).mono λj _ J=>?_⟩
  ·rcases d.2 with ⟨rfl,_⟩|⟨g,cap,I,rfl,_,hg,_⟩
   ·cases F
   ·cases F;rw [hg] at ho;cases ho;rfl
  have y:v.ownBlock=some j:=J.symm;refine⟨(d.lt j y).1,?_,X⟩;rcases d.2 with ⟨rfl,_⟩|⟨g,cap,I,rfl,_⟩
  ·cases y
  ·exact y
end
end
section
variable {α:Type} [Enc α] {P:Program} {k:Value->World->Prop} {pn:List PanicEntry->World->Prop} {w:World}
theorem zAI{w:World}{v:Value}(f:Fr (ownD u.heap.size v) w w'):Stw u w w':=f.stw λ_ hi=>hi.1
theorem rapp{t ty e:TypeId}{z:Value}{sz b:Nat}[g:SlT P t e][h:Elem P e z sz b]{v x:Value}{l m:List α}(c:Enc.sz α=sz/\z.cells.size=sz)
  (o:Own u.heap.size e w v l)(p:SlF w x m)[q:Le u w](r:(l.length+m.length)*b<=140737488355328/\l.length+m.length<=9223372036854775807)
  (s:∀d w',Own u.heap.size e w' d (l++m)->Fr (ownD u.heap.size v) w w'->Stw u w w'->k d w'):SemV P (Builtin.append_ #[t,t] ty #[v,x]) k pn w:=by
 obtain⟨d,w',y,A,f⟩:=zIG (ty:=ty) g h c.1 c.2 o p r.1 (by unfold maxLen;omega) q.e.size;exact SemV.of y (s _ _ A f (zAI f))
theorem New.sl{w:World}{b:Nat}{cs:Array Value}{e:TypeId}(h:New w w' b cs e){l:List α}(c:cs.toList=flat l)(d:l.length=n):SlF w' (.slice (some ⟨b,0,none⟩) n n) l:=by
 subst d;refine⟨_,_,rfl,Qe _,.inr ⟨b,0,rfl,?_⟩⟩;rw [<-c];exact At.blk h.blk
theorem New.own{w:World}{b:Nat}{cs:Array Value}{e:TypeId}(h:New w w' b cs e){l:List α}(c:cs.toList=flat l)(d:l.length=n)(g:n<=9223372036854775807)(f:B<=w.heap.size):Own B e w' (.slice (some ⟨b,0,none⟩) n n) l:=by
 subst d;refine .inr ⟨zAl l,.inr ⟨b,_,cs,rfl,Qw f h.lo,h.blk,Qe _,by unfold maxLen;omega,?_,?_⟩⟩
 ·rw [<-zAl,<-c];simp
 ·rw [c,Qj (by rw [zAl];exact Qe _)]
theorem setsplice(l:List Value)(off:Nat):∀(vs:List Value) (j:Nat),off+j+vs.length<=l.length ->
  (vs.zipIdx j).foldl (λ(cs:Array Value) x=>cs.setIfInBounds (off+x.2) x.1) l.toArray=(l.take (off+j)++vs++l.drop (off+j+vs.length)).toArray:=by
 intro vs
 induction vs generalizing l with
 |nil=>intro j _;simp
 |cons v r b =>
  intro j h;simp only [List.zipIdx_cons,JY,QA] at h ⊢;have e:l.toArray.setIfInBounds (off+j) v=(l.set (off+j) v).toArray:=by simp
  rw [e,b (l.set (off+j) v) (j+1) (by simp;omega)];congr 1
  have c:(l.set (off+j) v).take (off+(j+1))=l.take (off+j)++[v]:=by
   rw [Vn,if_pos (by omega)];rw [XI,Qm,VB (by omega),show off+(j+1) - (off+j)=1 by omega,Qj (by simp;omega)];simp
  have d:(l.set (off+j) v).drop (off+(j+1)+r.length)=l.drop (off+j+(r.length+1)):=by
   rw [List.drop_set_of_lt (by omega)];congr 1;omega
  rw [c,d];simp
def fillL (place:Nat->Option (Nat×Nat)):List Value->List (Nat×Value)->Option (List Value)
 |cs,[]=>some cs
 |cs,(i,v)::r=>match place i with
  |some (off,size)=>match Nat.beq v.cells.toList.length size,Nat.ble (off+size) cs.length with
   |true,true=>fillL place (cs.take off++v.cells.toList++cs.drop (off+size)) r
   |_,_=>none
  |none=>none
theorem zIk(b:Nat->Option (Nat×Nat)):∀(c:List (Nat×Value)) (cs d:List Value),fillL b cs c=some d->Instr.fill b cs.toArray c=some d.toArray
 |[],cs,d,h=>by simp only [fillL,JK] at h;subst h;rfl
 |(i,v)::r,cs,d,h=>by
  simp only [fillL] at h;simp only [Instr.fill];split at h
  ·rename_i off size g;simp only [g];split at h
   ·rename_i l o;have e:=QD l;have p:=Vf o;have f:v.cells.size=size:=by simpa using e
    rw [if_neg (by simp [f];omega)];rw [show v.cells.zipIdx=(v.cells.toList.zipIdx 0).toArray from Array.ext' (by simp)];rw [List.foldl_toArray];have:=setsplice cs off v.cells.toList 0 (by rw [e];omega);simp only [Xy,e] at this;rw [this];exact zIk b r _ _ h
   ·cases h
  ·cases h
def structB (P:Program) (t:TypeId) (places:List (Nat×Nat)):Bool:=
 match P.underlying t with
 |some (.struct fs)=>decide (fs.toList.map (λf=>(f.offset,P.cellsOf f.type))=places) && fs.all (λf=>(P.info? f.type).isSome)
 |_=>false
theorem zLp{P:Program}{t:TypeId}{b:List (Nat×Nat)}(h:structB P t b=true):
  ∃fs,P.underlying t=some (.struct fs)/\fs.toList.map (λf=>(f.offset,P.cellsOf f.type))=b/\fs.all (λf=>(P.info? f.type).isSome)=true:=by
 unfold structB at h;split at h
 ·rename_i fs c;rw [Qz] at h;exact⟨fs,c,of_decide_eq_true h.1,h.2⟩
 ·cases h
class StructT (P:Program) (t:TypeId) (places:outParam (List (Nat×Nat))) (zero:outParam (List Value)):Prop where
 h:structB P t places=true:=by kernel_rfl
 z:(P.info? t).bind (·.zero)=some (.agg zero.toArray):=by kernel_rfl
theorem zNA{fs:Array Field}{w:World}(h:fs.all (λf=>(P.info? f.type).isSome)=true):
  (fs.mapM (λf=>do pure (f.offset,<-sizeOf f.type):Field->Sem (Nat×Nat))).run P w=.ok (fs.toList.map (λf=>(f.offset,P.cellsOf f.type))).toArray w:=by
 rw [Array.mapM_eq_mapM_toList,Sem.run_map]
 have b:∀l:List Field,(∀f∈l,(P.info? f.type).isSome=true)->(l.mapM (λf=>do pure (f.offset,<-sizeOf f.type):Field->Sem (Nat×Nat))).run P w=.ok (l.map (λf=>(f.offset,P.cellsOf f.type))) w:=by
  intro l
  induction l with
  |nil=>intro _;rfl
  |cons f r d =>
   intro c;obtain⟨i,hi⟩:=Xx.1 (c f (Qs ..));simp only [List.mapM_cons,Qo,sizeOf,typeInfo,run_program,Qh,hi,Jd];have:=d (λg e=>c g (QF _ e));simp only [sizeOf,typeInfo] at this;rw [this];simp [Program.cellsOf,hi]
 rw [b _ (by intro f o;rw [Array.all_eq_true] at h;obtain⟨i,hi,rfl⟩:=Array.mem_iff_getElem.1 (Array.mem_toList_iff.1 o);exact h i hi)];rfl
theorem zJp{t:TypeId}{b:List (Nat×Nat)}{zero:List Value}(f:StructT P t b zero){c:List (Nat×Value)}{cs:List Value}(l:fillL (nth b) zero c=some cs)(w:World):
  (Instr.build t c.toArray).run P w=.ok (.agg cs.toArray) w:=by
 obtain⟨fs,o,p,q⟩:=zLp f.h;obtain⟨i,hi,r⟩:=Option.bind_eq_some_iff.1 f.z;have g:=zNA (P:=P) (w:=w) q;rw [p] at g;have e:(λx=>b.toArray[x]?)=nth b:=by funext x;rw [nth_eq];simp
 have d:=zIk _ c zero cs l;simp only [Instr.build,zeroValue,typeInfo,underlying,Qo,run_program,Qh,hi,r,Jd,o,g,Value.cells,e,d]
theorem rbuild{t:TypeId}{b:List (Nat×Nat)}{zero:List Value}[d:StructT P t b zero]{c:List (Nat×Value)}{cs:List Value}(e:fillL (nth b) zero c=some cs)(f:k (.agg cs.toArray) w):
  SemV P (Instr.build t c.toArray) k pn w:=SemV.of (zJp d e w) f
theorem tbuild{t:TypeId}{b:List (Nat×Nat)}{zero:List Value}[d:StructT P t b zero]{k:Value->Prop}{c:List (Nat×Value)}{cs:List Value}(e:fillL (nth b) zero c=some cs)(f:k (.agg cs.toArray)):
  TakeS P (Instr.build t c.toArray) D k w:=by rw [zAe];exact⟨_,λw' _=>zJp d e w',f⟩
def partsOf (vs:List Value) (i:Nat):List (Nat×Value):=match vs with
 |[]=>[]
 |v::r=>(i,v)::partsOf r (i+1)
theorem zKh(size:Nat):∀(vs:List Value) (d:List (List Value)) (i:Nat) (pre b:List Value),vs.map (λv=>v.cells.toList)=d->(∀cs∈d,cs.length=size)->pre.length=i*size->b.length=vs.length*size ->
  Instr.fill (λi=>some (i*size,size)) (pre++b).toArray (partsOf vs i)=some (pre++d.flatten).toArray
 |[],d,i,pre,b,h,_,_,g=>by
  simp only [JP] at h;subst h;have:b=[]:=Qn (by simpa using g);subst this;simp [partsOf,Instr.fill]
 |v::r,d,i,pre,b,h,p,e,g=>by
  cases d with
  |nil=>simp at h
  |cons c d =>
   simp only [QS,List.cons.injEq] at h;have l:c.length=size:=p c (Qs ..);have f:v.cells.size=size:=by rw [<-l,<-h.1];simp
   simp only [QA,Jo,Nat.one_mul] at g;simp only [partsOf,Instr.fill];rw [if_neg (by simp [f];omega)];rw [show v.cells.zipIdx=(v.cells.toList.zipIdx 0).toArray from Array.ext' (by simp),List.foldl_toArray];have q:=setsplice (pre++b) (i*size) v.cells.toList 0 (by simp [f];omega);simp only [Xy] at q;rw [q,h.1,l];have s:(pre++b).take (i*size)=pre:=by rw [<-e];exact V6
   have t:(pre++b).drop (i*size+size)=b.drop size:=by
    rw [List.drop_append,XG (by omega),Je];congr 1;omega
   rw [s,t];have:=zKh size r d (i+1) (pre++c) (b.drop size) h.2 (λcs o=>p cs (QF _ o)) (by simp [e,l,Jo]) (by simp;omega);rw [this];simp
theorem run_bs{t e:TypeId}{z:Value}{sz d:Nat}(s:SlT P t e)(C:Elem P e z sz d)(f:Enc.sz α=sz){vs:List Value}{xs:List α}(y:vs.map (λv=>v.cells.toList)=xs.map enc)(A:xs.length=n)(H:n*sz<=16777216)(w:World):
  (Instr.buildSlice t n (partsOf vs 0).toArray).run P w=.ok (.slice (some ⟨w.heap.size,0,none⟩) n n) (w.alloc (.cells (flat xs).toArray e)):=by
 obtain⟨i,hi,E,F,_⟩:=info_parts C.h;subst f;have c:vs.length=n:=by have:=congrArg List.length y;simpa [A] using this
 have b:=zKh (Enc.sz α) vs (xs.map enc) 0 [] ((Array.range (n*Enc.sz α)).map (λj=>(if n*Enc.sz α=0 then #[] else z.cells)[j % (if n*Enc.sz α=0 then #[] else z.cells).size]!)).toList y (by intro cs g;obtain⟨x,_,rfl⟩:=Qq.1 g;exact Enc.len x) (by simp) (by simp [c]);simp only [Je,Jz] at b;have l:(xs.map enc).flatten=flat xs:=by simp [flat,List.flatMap]
 rw [l] at b;by_cases h0:n*Enc.sz α=0
 ·have I:=Enc.pos (α:=α);have o:n=0:=by rcases Nat.mul_eq_zero.1 h0 with h|h;exact h;omega
  subst o;have p:vs=[]:=Qn c;have q:xs=[]:=Qn A;subst p;subst q;have G:Array.range 0=#[]:=Array.eq_empty_of_size_eq_zero (by simp);simp [Instr.buildSlice,sizeOf,typeInfo,underlying,s.h,hi,partsOf,Instr.fill,newRow,G]
 ·simp only [h0,if_false] at b;have r:¬(n*Enc.sz α > 2 ^ 24):=by omega
  simp only [Instr.buildSlice,sizeOf,typeInfo,underlying,zeroValue,Qo,run_program,Qh,s.h,hi,F,E,Jd,h0,if_false,r,b];simp [newRow]
theorem rbs{t e:TypeId}{z:Value}{sz c:Nat}[g:SlT P t e][h:Elem P e z sz c](xs:List α)(d:Enc.sz α=sz){vs:List Value}(l:vs.map (λv=>v.cells.toList)=xs.map enc)(f:xs.length=n)(o:n*sz<=16777216)
  (p:∀b w',New w w' b (flat xs).toArray e->SlF w' (.slice (some ⟨b,0,none⟩) n n) xs->k (.slice (some ⟨b,0,none⟩) n n) w'):SemV P (Instr.buildSlice t n (partsOf vs 0).toArray) k pn w:=
 SemV.of (run_bs g h d l f o w) (p _ _ (New.mk' w _ e) ((New.mk' w _ e).sl rfl f))
theorem rbs1{t e:TypeId}{z:Value}{sz c:Nat}[o:SlT P t e][p:Elem P e z sz c](x:α)(d:Enc.sz α=sz){v:Value}(g:v.cells.toList=enc x)(q:sz<=16777216)
  (h:∀b w',Stp w w'->w.heap.size<w'.heap.size->SlF w' (.slice (some ⟨b,0,none⟩) 1 1) [x]->k (.slice (some ⟨b,0,none⟩) 1 1) w'):SemV P (Instr.buildSlice t 1 #[(0,v)]) k pn w:=
 rbs (n:=1) (vs:=[v]) [x] d (by simp [g]) rfl (by omega) λb w' f l=>h b w' ⟨f.ext⟩ (by have:=blk_lt f.blk;have:=f.lo;omega) l
theorem rapp1{t ty e:TypeId}{z:Value}{sz b:Nat}[p:SlT P t e][q:Elem P e z sz b]{v x:Value}{l:List α}{y:α}(c:Enc.sz α=sz/\z.cells.size=sz)
  (f:Own u.heap.size e w v l)(g:SlF w x [y])[r:Le u w](h:(l.length+1)*b<=140737488355328/\l.length+1<=9223372036854775807)
  (o:∀d w',Own u.heap.size e w' d (l++[y])->Fr (ownD u.heap.size v) w w'->Stw u w w'->k d w'):SemV P (Builtin.append_ #[t,t] ty #[v,x]) k pn w:=
 rapp c f g h o
end
def splice (cur:List Value) (off:Nat) (vs:List Value):List Value:=cur.take off++vs++cur.drop (off+vs.length)
def sizeB (P:Program) (t n:Nat):Bool:=match P.info? t with|some i=>Nat.beq i.size n|none=>false
class Size (P:Program) (t:TypeId) (n:outParam Nat):Prop where
 h:sizeB P t n=true:=by kernel_rfl
theorem Fr.setRow(w:World)(g:Nat)(cs:Array Value):Fr (λb=>b=g) w (w.setRow g cs):=⟨rfl,rfl,rfl,by simp,λb _ c=>setRow_other w g b cs c,λb o c d=>by
 unfold World.setRow;rw [Jv];split
 ·rw [c];cases o <;> first|rfl|cases d
 ·exact c⟩
section
variable {P:Program} {k:Value->World->Prop} {pn:List PanicEntry->World->Prop} {w:World}
theorem zPD{t:Nat}(h:sizeB P t n=true)(w:World):(sizeOf t).run P w=.ok n w:=by
 unfold sizeB at h;split at h
 ·rename_i i hi;simp only [sizeOf,typeInfo,Qo,run_program,Qh,hi,Jd];rw [QD h]
 ·cases h
theorem zM1{t:TypeId}(p:Size P t n){g off:Nat}{b:Array Value}{e:TypeId}{v:Value}{vs:List Value}(q:w.heap[g]? = some (.cells b e (0,0)))(f:v.cells.toList=vs)(l:vs.length=n)(c:off+n<=b.size)(r:∀u∈vs,u.oneCell'=true):
  (Instr.storeAt t (.pointer (some ⟨g,off,none⟩)) v).run P w=.ok () (w.setRow g (splice b.toList off vs).toArray):=by
 have o:=run_storeCells_at P g off e vs 0 b w q (by rw [l];simpa using c) r;simp only [Xy] at o;have d:v.cells.size=n:=by rw [<-l,<-f];simp
 simp only [Instr.storeAt,Instr.sureAddr,storeVar,Qo,Jd,Qh,zPD p.h,d,f];simp [o,splice]
theorem rst{t:TypeId}[h:Size P t n]{g off:Nat}{c:Array Value}{e:TypeId}{v:Value}{vs:List Value}(f:w.heap[g]? = some (.cells c e (0,0)))(l:v.cells.toList=vs)(o:vs.length=n)(d:off+n<=c.size)(p:∀u∈vs,u.oneCell'=true)
  (q:∀w',w'.heap[g]? = some (.cells (splice c.toList off vs).toArray e (0,0))->Fr (λb=>b=g) w w'->w'.heap.size=w.heap.size->k undef w'):SemU P (Instr.storeAt t (.pointer (some ⟨g,off,none⟩)) v) k pn w:=
 SemU.of (zM1 h f l o d p) (q _ (setRow_heap w g c _ e _ f) (Fr.setRow w g _) (by simp))
variable {α:Type} [Enc α]
theorem Own.blk{e:TypeId}{c:Nat}{l:List α}(h:Own B e w (.slice a n c) l)(q:l≠[]):
  ∃g b,a=some ⟨g,0,none⟩/\n=l.length/\B<=g/\w.heap[g]? = some (.cells b e (0,0))/\n<=c/\c<=maxLen/\b.size=c*Enc.sz α/\b.toList.take (n*Enc.sz α)=flat l:=by
 rcases h with ⟨h,_⟩|h
 ·exact absurd h q
 ·rcases h.2 with ⟨_,r⟩|⟨g,cap,b,s,t,v,f,o,p,d⟩
  ·exact absurd (Qn r) q
  ·cases s;exact⟨g,b,rfl,rfl,t,v,f,o,p,d⟩
theorem rixO{t e:TypeId}{z:Value}{sz d:Nat}[s:SlT P t e][v:Elem P e z sz d](f:Enc.sz α=sz){c:Nat}{l:List α}{x:α}(h:Own B e w (.slice a n c) l)(hi:l[i]? = some x)
  (y:∀g,Value.blk (.slice a n c)=some g->B<=g->At w g (i*sz) (enc x)->k (.pointer (some ⟨g,i*sz,none⟩)) w):SemV P (Instr.indexAt t (.slice a n c) (.int .i64 i)) k pn w:=by
 have A:i<l.length:=(Qy.1 hi).1;obtain⟨g,C,rfl,rfl,E,I,F,G,H,p⟩:=h.blk (by intro h0;subst h0;simp at A);refine SemV.of (zD1 s v (b:=g) (o:=0) (by omega) (by omega) w) ?_;obtain⟨_,b,o,q,r⟩:=h.sl.at hi;cases q;subst f;have:=y g rfl E (by simpa using r);simpa using this
theorem zNQ(b vs:List Value)(off:Nat)(h:off+vs.length<=b.length):(splice b off vs).length=b.length:=by simp [splice];omega
theorem zMj(b vs:List Value)(off m:Nat)(h:off+vs.length<=m)(c:m<=b.length):(splice b off vs).take m=splice (b.take m) off vs:=by
 simp only [splice,XI,Qb,Qm];rw [VB (by omega),Xz,Nat.min_eq_right (by omega),Xz,VB (by omega),Qj (l:=vs) (by omega)];congr 1;rw [List.drop_take]
theorem Own.stored{e:TypeId}{v:Value}{l l':List α}{g off:Nat}{vs:List Value}(h:Own B e w v l)(z:Value.blk v=some g)(A:l≠[])(d:l'.length=l.length)(o:off+vs.length<=l.length*Enc.sz α)(s:splice (flat l) off vs=flat l'):
  ∃b,w.heap[g]? = some (.cells b e (0,0))/\off+vs.length<=b.size/\∀w',w'.heap[g]? = some (.cells (splice b.toList off vs).toArray e (0,0))->Own B e w' v l':=by
 obtain⟨a,c,rfl⟩:=h.sl.shape;obtain⟨C,b,rfl,_,t,E,p,x,q,f⟩:=h.blk A;cases z;have r:l.length*Enc.sz α<=b.toList.length:=by simp [q];exact Ji _ p
 refine⟨b,E,by simp at r;omega,λw' y=>.inr ⟨zAl l',.inr ⟨C,c,_,by rw [d],t,y,by rw [d];exact p,x,?_,?_⟩⟩⟩
 ·simp [zNQ _ _ _ (show off+vs.length<=b.toList.length by omega),q]
 ·rw [d,List.toList_toArray,zMj _ _ _ _ o r,f,s]
theorem rstO'{t:TypeId}{sz:Nat}[H:Size P t sz](f:Enc.sz α=sz){e:TypeId}{v:Value}{l:List α}{g:Nat}{u:Value}(x:α)(h:Own B e w v l)(o:Value.blk v=some g)(hi:i<l.length)(s:u.cells.toList=enc x)
  (y:∀w',Own B e w' v (l.set i x)->Fr (ownD B v) w w'->w'.heap.size=w.heap.size->k undef w'):SemU P (Instr.storeAt t (.pointer (some ⟨g,i*sz,none⟩)) u) k pn w:=by
 subst f
 have p:i*Enc.sz α+(enc x).length<=l.length*Enc.sz α:=by
  rw [Enc.len];calc i*Enc.sz α+Enc.sz α=(i+1)*Enc.sz α:=by rw [Jo,Nat.one_mul]
   _<=_:=Ji _ hi
 obtain⟨z,A,c,C⟩:=h.stored (l':=l.set i x) (vs:=enc x) (off:=i*Enc.sz α) o (by intro h0;subst h0;simp at hi) (by simp) p (by unfold splice;rw [Enc.len];exact flat_set l x hi);refine rst A s (Enc.len x) (by rw [Enc.len] at c;exact c) (Enc.one x) λw' E F G=>y w' (C w' E) (F.mono λb _ q=>?_) G;subst q
 have r:B<=b:=by
  obtain⟨I,d,r,_⟩:=h.lt (by intro h0;subst h0;simp at hi);rw [o] at d;cases d;exact r
 exact⟨r,o,h.not0 (by intro h0;subst h0;simp at hi)⟩
theorem zJd(z:Array Value)(x:α)(c:z.toList=enc x)(n:Nat):(madeCells z (n*Enc.sz α)).toList=flat (List.replicate n x):=by
 have b:z.size=Enc.sz α:=by rw [<-Enc.len x,<-c];simp
 have e:=Enc.pos (α:=α);apply Vl;intro j
 have f:∀n j,(flat (List.replicate n x))[j]? = if j<n*Enc.sz α then (enc x)[j % Enc.sz α]? else none:=by
  intro n
  induction n with
  |zero=>intro j;simp
  |succ n g =>
   intro j;simp only [List.replicate_succ,flat_cons,XT,Enc.len];by_cases h:j<Enc.sz α
   ·have:j<(n+1)*Enc.sz α:=by rw [Jo];omega
    simp [h,this,Yl h]
   ·simp only [h,if_false,g];have l:(j - Enc.sz α) % Enc.sz α=j % Enc.sz α:=by rw [<-Nat.mod_eq_sub_mod (by omega)]
    have o:(j - Enc.sz α<n*Enc.sz α)↔(j<(n+1)*Enc.sz α):=by rw [Jo];omega
    simp only [l,o]
 rw [f];by_cases h:j<n*Enc.sz α
 ·have d:j % Enc.sz α<Enc.sz α:=Nat.mod_lt _ e;have p:j % z.size<z.size:=by rw [b];exact d
  simp only [madeCells,XK,Array.toList_range,QK,h,if_true];rw [VS h,<-c];simp [b,d]
 ·simp only [madeCells,XK,Array.toList_range,QK,h,if_false];rw [Jg (by simp;omega)];rfl
theorem rmk'{t e:TypeId}{z:Value}{sz b:Nat}[o:SlT P t e][p:Elem P e z sz b](x:α)(c:Enc.sz α=sz)(q:z.cells.toList=enc x)(r:B<=w.heap.size)(s:b*n<=281474976710656/\n<=9223372036854775807)
  (v:∀g w',Own B e w' (.slice (some ⟨g,0,none⟩) n n) (List.replicate n x)->Ext w w'->w.heap.size<=g->k (.slice (some ⟨g,0,none⟩) n n) w'):SemV P (Instr.makeSlice t (.int .i64 n) (.int .i64 n)) k pn w:=by
 obtain⟨i,hi,d,y,f⟩:=info_parts p.h;subst c;obtain⟨w',A,l,C⟩:=run_make_full (P:=P) w B t e i z (Enc.sz α) o.h hi d y .i64 .i64 n (by rw [f];exact s.1) (by unfold maxLen;omega) r;rw [zJd z.cells x q n] at l;refine SemV.of A (v _ w' (.inr (by simpa using l)) ((Fr.grown C λ_ _ E=>by cases E).mono λ_ _ h=>by simp at h) (Qe _))
theorem rslO{t e:TypeId}{z:Value}{sz b:Nat}[p:SlT P t e][q:Elem P e z sz b]{c:Nat}{l:List α}(lo hi:Option Nat)(h:Own B e w (.slice a n c) l)(r:lo.getD 0<=hi.getD n)(A:hi.getD n<=n)
  (s:∀a' d,(hi.getD n - lo.getD 0=0\/∃g,Value.blk (.slice a n c)=some g/\a'=some ⟨g,lo.getD 0*sz,none⟩)->k (.slice a' (hi.getD n - lo.getD 0) d) w):SemV P (Instr.sliceAt t (.slice a n c) (loV lo) (loV hi) none) k pn w:=by
 have v:n<=c:=by obtain⟨a',d,f,o,_⟩:=h.sl;cases f;exact o
 refine SemV.of (zA0 p q lo hi r (by omega) w) (s _ _ ?_);by_cases h0:hi.getD n - lo.getD 0=0
 ·exact .inl h0
 ·right;have x:n=l.length:=by obtain⟨a',d,f,o,_⟩:=h.sl;cases f;rfl
  obtain⟨g,y,rfl,_⟩:=h.blk (by intro h0;subst h0;simp at x;omega);exact⟨g,rfl,by rw [if_neg (by omega)];simp [zAs]⟩
theorem rcp'{dT V ty e:TypeId}{z:Value}{sz H:Nat}[S:SlT P dT e][W:Elem P e z sz H](I:Enc.sz α=sz){v x:Value}{l m:List α}{r X:Nat}(lo:Nat)(G:Own B e w v l)(Y:SlF w x m)
  (hd:r=0\/∃g,Value.blk v=some g/\a'=some ⟨g,lo*sz,none⟩)(J:lo+r<=l.length)(K:m.length<=r)
  (T:∀w',Own B e w' v (l.take lo++m++l.drop (lo+m.length))->Fr (ownD B v) w w'->w'.heap.size=w.heap.size->k (.int .i64 m.length) w'):SemV P (Builtin.copy_ #[dT,V] ty #[.slice a' r X,x]) k pn w:=by
 obtain⟨i,hi,_,Z,_⟩:=info_parts W.h;subst I;obtain⟨xa,xc,rfl,a0,L⟩:=Y;by_cases d:m=[]
 ·subst d;have s:l.take lo++[]++l.drop (lo+([]:List α).length)=l:=by simp
  refine SemV.of (v:=.int .i64 ((0:Nat):Int)) (w':=w) ?_ (T w (by rw [s];exact G) (Fr.refl _ w) rfl);cases xa <;> cases a' <;> simp [Builtin.copy_,run_underlying S.h,Builtin.lenOf,sizeOf,typeInfo,hi,Builtin.firstCells,loadCells,loadCellsFrom,storeCells,goInt]
 ·have a1:0<m.length:=by cases m;exact absurd rfl d;simp
  rcases L with L|⟨b,o,rfl,M⟩
  ·exact absurd L d
  rcases hd with hd|⟨g,O,rfl⟩
  ·omega
  have f:l≠[]:=by intro h0;subst h0;simp at J;omega
  have t:lo*Enc.sz α+(flat m).length<=l.length*Enc.sz α:=by
   rw [zAl,<-Jo];exact Ji _ (by omega)
  have y:splice (flat l) (lo*Enc.sz α) (flat m)=flat (l.take lo++m++l.drop (lo+m.length)):=by
   simp only [flat_append,zCt,zCs,splice,zAl,<-Jo]
  obtain⟨p,c,A,hw⟩:=G.stored (l':=l.take lo++m++l.drop (lo+m.length)) (vs:=flat m) O f (by simp;omega) t y;have q:∀j u,(flat m)[j]? = some u->w.cell? ((⟨b,o,none⟩:Addr).add j)=some u:=λj u Q=>by rw [zAs];exact M j u Q
  have R:=run_firstCells_some (P:=P) w (Enc.sz α) m.length ⟨b,o,none⟩ m.length xc (flat m) (zAl m) q;have C:=run_storeCells_at P g (lo*Enc.sz α) e (flat m) 0 p w c (by simpa using A) (zC7 m);simp only [Xy] at C;have E:Nat.min m.length r=m.length:=VB K;have U:B<=g:=by obtain⟨g',F,U,_⟩:=G.lt f;rw [O] at F;cases F;exact U
  refine SemV.of (v:=.int .i64 (m.length:Int)) (w':=w.setRow g (splice p.toList (lo*Enc.sz α) (flat m)).toArray) ?_ (T _ (hw _ (setRow_heap w g p _ e _ c)) ((Fr.setRow w g _).mono λj _ Q=>⟨by omega,by rw [Q];exact O,G.not0 f⟩) (by simp));simp only [Builtin.copy_,Builtin.lenOf,sizeOf,typeInfo];simp [C,goInt,splice,run_underlying S.h,E,R,hi,Z]
theorem rstO{t:TypeId}{sz:Nat}[r:Size P t sz](b:Enc.sz α=sz){e:TypeId}{v:Value}{l:List α}{g:Nat}{y:Value}(x:α)(h:Own u.heap.size e w v l)(d:Value.blk v=some g)(hi:i<l.length)(f:y.cells.toList=enc x)
  (o:∀w',Own u.heap.size e w' v (l.set i x)->Fr (ownD u.heap.size v) w w'->Stw u w w'->w'.heap.size=w.heap.size->k undef w'):SemU P (Instr.storeAt t (.pointer (some ⟨g,i*sz,none⟩)) y) k pn w:=
 rstO' b x h d hi f λw' p c q=>o w' p c (zAI c) q
theorem rmk{t e:TypeId}{z:Value}{sz d:Nat}[p:SlT P t e][q:Elem P e z sz d](x:α)(f:Enc.sz α=sz)(h:z.cells.toList=enc x)(l:d*n<=281474976710656/\n<=9223372036854775807)
  (o:∀g w',Own w.heap.size e w' (.slice (some ⟨g,0,none⟩) n n) (List.replicate n x)->Stp w w'->w.heap.size<=g->k (.slice (some ⟨g,0,none⟩) n n) w'):SemV P (Instr.makeSlice t (.int .i64 n) (.int .i64 n)) k pn w:=
 rmk' x f h (Qe _) l λg w' a b c=>o g w' a ⟨b⟩ c
theorem rcp{dT q ty e:TypeId}{z:Value}{sz f:Nat}[A:SlT P dT e][C:Elem P e z sz f](h:Enc.sz α=sz){v x:Value}{l m:List α}{d r:Nat}(lo:Nat)(s:Own u.heap.size e w v l)(t:SlF w x m)
  (hd:d=0\/∃g,Value.blk v=some g/\a'=some ⟨g,lo*sz,none⟩)(o:lo+d<=l.length)(p:m.length<=d)
  (y:∀w',Own u.heap.size e w' v (l.take lo++m++l.drop (lo+m.length))->Fr (ownD u.heap.size v) w w'->Stw u w w'->w'.heap.size=w.heap.size->k (.int .i64 m.length) w'):SemV P (Builtin.copy_ #[dT,q] ty #[.slice a' d r,x]) k pn w:=
 rcp' h lo s t hd o p λw' a b c=>y w' a b (zAI b) c
end
class FnAt (P:Program) (f:FuncId) (fn:outParam Func) (n:outParam Nat):Prop where
 hf:P.funcs[f]? = some fn:=by kernel_rfl
 hn:fn.ntmps=n:=by kernel_rfl
 hb:fn.body.isSome=true:=by kernel_rfl
 hm : (fn.name == "runtime.NumGoroutine") = false:=by kernel_rfl
theorem en{T:Tab}(c:T.ok P=true){f:FuncId}{b:Func}[h:FnAt P f b n]{args:Array Value}{w:World}{R:Value->World->Prop}(d:Nat.ble args.size n=true)
  (e:S P T n (codeOf b) (retK P b.results.toList R (λ_ _=>False)) (argF args.toList) w)(g:Nat.ble n 4294967296=true:=by rfl)(l:T.round=false:=by rfl):Sp P f args w R:=
 Sp.enter c l h.hf h.hn h.hb h.hm d g e
end Go.W
set_option linter.unusedSimpArgs false
namespace Go.W
open Go
open Enc (enc)
variable {B N i j k m n:Nat} {D:Nat -> Prop} {P:Program} {a a':Option Addr} {u u' w':World}
section
variable {P:Program} {k:Value->World->Prop} {pn:List PanicEntry->World->Prop} {w:World}
theorem zFY(a b:ByteArray):(a.toList==b.toList)=true↔a=b:=by
 rw [beq_iff_eq,Xs,Xs];constructor
 ·intro h;have:a.data=b.data:=Array.toList_inj.1 h;cases a;cases b;simp_all
 ·rintro rfl;rfl
theorem zBF(c:BinOp)(t:TypeId)(x y:Operand)(a b:ByteArray)(w:World):(eqGuard c t x y (.string a) (.string b)).run P w=.ok () w:=by
 cases c <;> rfl
theorem zGN{t:TypeId}{x y:Operand}{a b:ByteArray}(w:World):(do eqGuard .eql t x y (.string a) (.string b);binOp .eql t (.string a) (.string b):Sem Value).run P w=.ok (.bool (a.toList==b.toList)) w:=by
 rw [Qo,zBF];simp [binOp_string_eql]
theorem zGO{t:TypeId}{x y:Operand}{a b:ByteArray}(w:World):(do eqGuard .neq t x y (.string a) (.string b);binOp .neq t (.string a) (.string b):Sem Value).run P w=.ok (.bool (!(a.toList==b.toList))) w:=by
 rw [Qo,zBF];simp [binOp_string_neq]
theorem zF5{s:Sem Value}{p:Prop}(b:Bool)(h:s.run P w=.ok (.bool b) w)(c:b=true↔p)(d:p->k (.bool true) w)(e:¬p->k (.bool false) w):SemV P s k pn w:=by
 refine SemV.of h ?_;cases b
 ·exact e λf=>by have:=c.2 f;cases this
 ·exact d (c.1 rfl)
theorem zDh{s:Sem Value}{p:Prop}{k:Value->Prop}(b:Bool)(h:∀w',s.run P w'=.ok (.bool b) w')(c:b=true↔p)(d:p->k (.bool true))(e:¬p->k (.bool false)):TakeS P s D k w:=by
 rw [zAe];refine⟨_,λw' _=>h w',?_⟩;cases b
 ·exact e λf=>by have:=c.2 f;cases this
 ·exact d (c.1 rfl)
theorem zFX{b:Bool}{p:Prop}(h:b=true↔p):(!b)=true↔¬p:=by cases b <;> simp_all
theorem rseq{t:TypeId}{x y:Operand}{a b:ByteArray}(c:a=b->k (.bool true) w)(d:a≠b->k (.bool false) w):SemV P (do eqGuard .eql t x y (.string a) (.string b);binOp .eql t (.string a) (.string b)) k pn w:=
 zF5 _ (zGN w) (zFY a b) c d
theorem rsne{t:TypeId}{x y:Operand}{a b:ByteArray}(c:a≠b->k (.bool true) w)(d:a=b->k (.bool false) w):SemV P (do eqGuard .neq t x y (.string a) (.string b);binOp .neq t (.string a) (.string b)) k pn w:=
 zF5 _ (zGO w) (zFX (zFY a b)) c λh=>d (Q2.1 h)
theorem tseq{t:TypeId}{x y:Operand}{a b:ByteArray}{k:Value->Prop}(c:a=b->k (.bool true))(d:a≠b->k (.bool false)):TakeS P (do eqGuard .eql t x y (.string a) (.string b);binOp .eql t (.string a) (.string b)) D k w:=
 zDh _ (λw'=>zGN w') (zFY a b) c d
theorem tsne{t:TypeId}{x y:Operand}{a b:ByteArray}{k:Value->Prop}(c:a≠b->k (.bool true))(d:a=b->k (.bool false)):TakeS P (do eqGuard .neq t x y (.string a) (.string b);binOp .neq t (.string a) (.string b)) D k w:=
 zDh _ (λw'=>zGO w') (zFX (zFY a b)) c λh=>d (Q2.1 h)
theorem zDd(d:Nat){t:TypeId}(c:P.underlying t=some .bool)(a b:Bool)(w:World):(Op.equalIn (d+1) t (.bool a) (.bool b)).run P w=.ok (a==b) w:=by
 simp [Op.equalIn,run_underlying c]
theorem zLc{t:TypeId}(c:P.underlying t=some .bool)(a b:Bool)(w:World):(binOp .eql t (.bool a) (.bool b)).run P w=.ok (.bool (a==b)) w:=by
 simp only [binOp];simp [Op.equal,Op.maxDepth,zDd 9999 c]
theorem zLe{t:TypeId}(c:P.underlying t=some .bool)(a b:Bool)(w:World):(binOp .neq t (.bool a) (.bool b)).run P w=.ok (.bool (!(a==b))) w:=by
 simp only [binOp];simp [Op.equal,Op.maxDepth,zDd 9999 c]
class BoolT (P:Program) (t:TypeId):Prop where
 h:P.underlying t=some .bool
theorem zQn{t:TypeId}(c:BoolT P t){x y:Operand}{a b:Bool}(w:World):(do eqGuard .eql t x y (.bool a) (.bool b);binOp .eql t (.bool a) (.bool b):Sem Value).run P w=.ok (.bool (a==b)) w:=by
 rw [Qo,show (eqGuard .eql t x y (.bool a) (.bool b)).run P w=.ok () w from rfl,Qh,zLc c.h]
theorem zQo{t:TypeId}(c:BoolT P t){x y:Operand}{a b:Bool}(w:World):(do eqGuard .neq t x y (.bool a) (.bool b);binOp .neq t (.bool a) (.bool b):Sem Value).run P w=.ok (.bool (!(a==b))) w:=by
 rw [Qo,show (eqGuard .neq t x y (.bool a) (.bool b)).run P w=.ok () w from rfl,Qh,zLe c.h]
theorem rbeq{t:TypeId}[c:BoolT P t]{x y:Operand}{a b:Bool}(d:a=b->k (.bool true) w)(e:a≠b->k (.bool false) w):SemV P (do eqGuard .eql t x y (.bool a) (.bool b);binOp .eql t (.bool a) (.bool b)) k pn w:=
 zF5 _ (zQn c w) beq_iff_eq d e
theorem tbne{t:TypeId}[c:BoolT P t]{x y:Operand}{a b:Bool}{k:Value->Prop}(d:a≠b->k (.bool true))(e:a=b->k (.bool false)):TakeS P (do eqGuard .neq t x y (.bool a) (.bool b);binOp .neq t (.bool a) (.bool b)) D k w:=
 zDh _ (λw'=>zQo c w') (zFX beq_iff_eq) d λh=>e (Q2.1 h)
theorem rmax{b:Array TypeId}{ty:TypeId}{x y:Int}(c:k (.int .i64 (max x y)) w):SemV P (Builtin.max_ b ty #[.int .i64 x,.int .i64 y]) k pn w:=
 SemV.of (v:=.int .i64 (max x y)) (w':=w) (by simp [Builtin.max_,Builtin.max2];split <;> omega) c
theorem rmin{b:Array TypeId}{ty:TypeId}{x y:Int}(c:k (.int .i64 (min x y)) w):SemV P (Builtin.min_ b ty #[.int .i64 x,.int .i64 y]) k pn w:=
 SemV.of (v:=.int .i64 (min x y)) (w':=w) (by simp [Builtin.min_,Builtin.min2];split <;> omega) c
end
abbrev agg {α:Type} [Enc α] (x:α):Value:=.agg (enc x).toArray
structure RQ where
 kind:Int
 frm:Int
 to:Int
 words:SV
 rad:Int
 most:Int
instance:Enc RQ:=⟨6,λx=>[.int .i64 x.kind,.int .i64 x.frm,.int .i64 x.to,x.words.v,.int .i64 x.rad,.int .i64 x.most],λ_=>rfl,
 by intro x u hu;simp [SV.v] at hu;rcases hu with h|h|h|h|h|h <;> subst h <;> rfl,by decide⟩
structure RReq where
 id:Int
 kind:Int
 q:RQ
instance:Enc RReq:=⟨8,λx=>.int .i64 x.id::.int .i64 x.kind::enc x.q,λ_=>rfl,
 by intro x u hu;simp at hu;rcases hu with h|h|h;(subst h;rfl);(subst h;rfl);exact Enc.one _ _ h,by decide⟩
structure RHeld where
 used:Bool
 r:RReq
instance:Enc RHeld:=⟨9,λx=>.bool x.used::enc x.r,λ_=>rfl,
 by intro x u hu;simp at hu;rcases hu with h|h;(subst h;rfl);exact Enc.one _ _ h,by decide⟩
abbrev Wd:=SV->List ByteArray
def Tells (p:Prop) (v:Value):Prop:=(v=.bool true/\p)\/(v=.bool false/\¬p)
theorem Tells.t{p:Prop}(h:p):Tells p (.bool true):=.inl ⟨rfl,h⟩
theorem Tells.f{p:Prop}(h:¬p):Tells p (.bool false):=.inr ⟨rfl,h⟩
end Go.W
set_option warn.classDefReducibility false
set_option linter.unusedSimpArgs false
namespace Go.W
open Go
open Enc (enc)
variable {B N i j k m n:Nat} {D:Nat -> Prop} {P:Program} {a a':Option Addr} {u u' w':World}
section
variable {P:Program}
class Rd (P:Program) (t:TypeId) (α:Type) [Enc α] where
 G:World->α->Prop
 cells:P.cellsOf t=Enc.sz α
 rd:∀{H:Type} {eH:TypeId×Value->H} {w:World} {sp:Nat->Bool} {fuel:Nat} {cs:List Value} {x:DataW H×List MemPlace},DataW.trod eH P w 0 sp true fuel t cs=some x->∃a:α,cs=enc a/\G w a
def rdInt {t:TypeId} (h:P.underlying t=some (.int .i64)) (hc:P.cellsOf t=1):Rd P t Int where
 G _ q:=-9223372036854775808<=q/\q<=9223372036854775807
 cells:=hc
 rd:=by
  intro H eH w sp fuel cs x hx
  cases fuel with
  |zero=>simp [DataW.trod] at hx
  |succ n =>
   unfold DataW.trod at hx
   rw [h] at hx
   split at hx <;> simp_all
   obtain⟨⟨rfl,hw⟩,_⟩:=hx
   subst_vars
   refine⟨_,rfl,?_⟩
   simp [Lit.wf,IntKind.min,IntKind.max,IntKind.signed,IntKind.bits] at hw
   omega
def rdBool {t:TypeId} (h:P.underlying t=some .bool) (hc:P.cellsOf t=1):Rd P t Bool where
 G _ _:=True
 cells:=hc
 rd:=by
  intro H eH w sp fuel cs x hx
  cases fuel with
  |zero=>simp [DataW.trod] at hx
  |succ n =>
   unfold DataW.trod at hx
   rw [h] at hx
   split at hx
   case h_1=>exact⟨_,rfl,trivial⟩
   all_goals simp_all
def rdStr {t:TypeId} (h:P.underlying t=some .string) (hc:P.cellsOf t=1):Rd P t ByteArray where
 G _ s:=s.size<=maxLen
 cells:=hc
 rd:=by
  intro H eH w sp fuel cs x hx
  cases fuel with
  |zero=>simp [DataW.trod] at hx
  |succ n =>
   unfold DataW.trod at hx
   rw [h] at hx
   split at hx <;> simp_all
   exact⟨_,rfl,hx.1⟩
theorem At.app{w:World}{b o:Nat}{l m:List Value}(d:At w b o l)(e:At w b (o+l.length) m):At w b o (l++m):=by
 intro j v c;rw [XT] at c;split at c
 ·exact d j v c
 ·have:=e _ v c
  rwa [show o+l.length+(j - l.length)=o+j by omega] at this
theorem At.flat{α:Type}[Enc α]{w:World}{b:Nat}:∀{l:List α} {o:Nat},(∀(i:Nat) (x:α),l[i]? = some x->At w b (o+i*Enc.sz α) (enc x))->At w b o (Go.W.flat l):=by
 intro l
 induction l with
 |nil=>intro o _ j v c;simp at c
 |cons x r d =>
  intro o h;refine At.app (by simpa using h 0 x rfl) (d λi y e=>?_);have:=h (i+1) y (by simpa using e)
  rwa [Enc.len,show o+Enc.sz α+i*Enc.sz α=o+(i+1)*Enc.sz α by rw [Jo];omega]
theorem zMK{α:Type}{p:Nat->α->Prop}:∀{n:Nat},(∀i,i<n->∃a,p i a)->∃l:List α,l.length=n/\∀i a,l[i]? = some a->p i a:=by
 intro n
 induction n with
 |zero=>intro _;exact⟨[],rfl,by simp⟩
 |succ n e =>
  intro h;obtain⟨l,f,g⟩:=e λi hi=>h i (by omega);obtain⟨a,q⟩:=h n (by omega);refine⟨l++[a],by simp [f],λi b c=>?_⟩;rw [XT] at c;split at c
  ·exact g i b c
  ·rename_i o
   cases d:i - l.length with
   |zero=>rw [d] at c;simp at c;subst c;rwa [show i=n by omega]
   |succ k=>rw [d] at c;simp at c
theorem zPp{α:Type}[Enc α]{t e:TypeId}[R:Rd P e α](L:P.underlying t=some (.slice e)){H:Type}{M:TypeId×Value->H}{w:World}{O:Nat->Bool}{d:Nat}{cs:List Value}{x:DataW H×List MemPlace}(Q:DataW.trod M P w 0 O true d t cs=some x):
  ∃a n c,∃l:List α,cs=[.slice a n c]/\SlF w (.slice a n c) l/\(∀y∈l,R.G w y)/\c<=maxLen/\n<=c:=by
 rcases DataW.trod_slice L Q with ⟨rfl,_⟩|⟨a,len,cap,o,rest,n,_,rfl,_,_,C,S,E,p,_⟩
 ·exact⟨none,0,0,[],rfl,SlF.nil w,by simp,by decide,Qe _⟩
 ·have q:∀i,i<len->∃y:α,(∃c,w.cells? 0 (a.add (i*P.cellsOf e)) (P.cellsOf e)=some c/\c=enc y)/\R.G w y:=by
   intro i hi;have F:=p i hi;rw [Qd (by omega),Option.bind_eq_some_iff] at F;obtain⟨c,f,I⟩:=F;obtain⟨y,r,g⟩:=R.rd I;exact⟨y,⟨c,f,r⟩,g⟩
  obtain⟨l,h,s⟩:=zMK q;refine⟨some a,len,cap,l,rfl,⟨_,_,by rw [h],by rw [h];exact C,?_⟩,?_,S,C⟩
  ·by_cases h0:l=[]
   ·exact .inl h0
   ·right;have J:=Enc.pos (α:=α);have T:=R.cells;have z:0<l.length:=by cases l;exact absurd rfl h0;simp
    have b:a.spot=none:=by
     obtain⟨⟨c,f,I⟩,_⟩:=s 0 l[0] (by simp [z]);obtain⟨_,r,g⟩:=World.cells?_some f;have:=g 0 (by omega);rw [Qd (by omega)] at this;have U:(a.add (0*P.cellsOf e)).add 0=a:=by simp [Addr.add]
     rw [U] at this;unfold World.cell? at this;split at this
     ·split at this
      ·cases this
      ·rename_i V;simpa using V
     ·cases this
    obtain⟨W,X,as⟩:=a;simp only at b;subst b;refine⟨W,X,rfl,At.flat λi y A=>?_⟩;obtain⟨⟨c,f,rfl⟩,_⟩:=s i y A;obtain⟨_,r,g⟩:=World.cells?_some f;intro j v K;have Y:j<(enc y).length:=(Qy.1 K).1;have:=g j (by omega);rw [zAs,zAs,T] at this;rw [this];exact K
  ·intro y A;obtain⟨i,hi,rfl⟩:=QI.1 A;exact(s i _ (by simp [hi])).2
def rdSl {α:Type} [Enc α] {t e:TypeId} [R:Rd P e α] (ht:P.underlying t=some (.slice e)) (hc:P.cellsOf t=1):Rd P t SV where
 G w s:=∃l:List α,SlF w s.v l/\(∀y∈l,R.G w y)/\s.c<=maxLen/\s.n<=s.c
 cells:=hc
 rd:=by
  intro H eH w sp fuel cs x hx
  obtain⟨a,n,c,l,rfl,h1,h2,h3,h4⟩:=zPp (α:=α) ht hx
  exact⟨⟨a,n,c⟩,rfl,l,h1,h2,h3,h4⟩
def strB (P:Program) (t:TypeId) (fl:List (TypeId×Nat×Nat)) (n:Nat):Bool:=
 match P.underlying t with
 |some (.struct fs)=>decide (fs.toList.map (λf=>(f.type,f.offset,P.cellsOf f.type))=fl) && P.cellsOf t==n
 |_=>false
theorem zJo{t:TypeId}{fl:List (TypeId×Nat×Nat)}(h:strB P t fl n=true){H:Type}{l:TypeId×Value->H}{w:World}{o:Nat->Bool}{b:Nat}{cs:List Value}{x:DataW H×List MemPlace}(p:DataW.trod l P w 0 o true b t cs=some x):
  cs.length=n/\∀(i:Nat) (d:TypeId) (off sz:Nat),fl[i]? = some (d,off,sz)->∃b y,DataW.trod l P w 0 o true b d ((cs.drop off).take sz)=some y:=by
 unfold strB at h;split at h
 ·rename_i fs e;rw [Qz] at h;obtain⟨q,r⟩:=h;obtain⟨xs,m,_,_,s,v,z⟩:=DataW.trod_struct e p;refine⟨by rw [s];exact of_decide_eq_true (by simpa using r),λi d off sz hi=>?_⟩;rw [<-of_decide_eq_true q,QK,Vo] at hi;obtain⟨f,A,g⟩:=hi;injection g with e1 g;injection g with e2 e3;subst e1;subst e2;subst e3;have c:fs[i]? = some f:=by simpa using A
  have:=z i f c;have hlt:i<xs.length:=by rw [v];exact(Array.getElem?_eq_some_iff.1 c).1
  rw [Qd hlt] at this;exact⟨m,_,this⟩
 ·cases h
theorem zBv{α:Type}[Enc α]{t:TypeId}{fl:List (TypeId×Nat×Nat)}{H:Type}{d:TypeId×Value->H}{w:World}{e:Nat->Bool}{cs:List Value}(f:∀(i:Nat) (c:TypeId) (off sz:Nat),fl[i]? = some (c,off,sz)->∃b y,DataW.trod d P w 0 e true b c ((cs.drop off).take sz)=some y)
  (i:Nat){off sz:Nat}[R:Rd P t α](hi:fl[i]? = some (t,off,sz)):∃a:α,(cs.drop off).take sz=enc a/\R.G w a:=by
 obtain⟨b,y,h⟩:=f i t off sz hi;exact R.rd h
theorem tile{cs:List Value}{off sz:Nat}{a r:List Value}(h:(cs.drop off).take sz=a)(b:cs.drop n=r)(c:off+sz=n):cs.drop off=a++r:=by
 subst c;rw [<-h,<-b,<-VZ,JW]
theorem tile0{cs:List Value}(h:cs.length=n):cs.drop n=[]:=XF (by omega)
theorem notAgg{W:World}{b:Nat}{t:TypeId}{v:Value}{cs:Array Value}(h:Value.okWide P W .any b t v)(d:v=.agg cs):(∃fs,P.underlying t=some (.struct fs))\/∃n e,P.underlying t=some (.array n e):=by
 subst d;unfold Value.okWide at h;split at h
 ·rename_i fs c;exact .inl ⟨fs,c⟩
 ·rename_i n e c;exact .inr ⟨n,e,c⟩
 ·rename_i f g;unfold Cell.okWide Cell.ok at h;split at h <;> try cases ‹Value.agg cs=_›
  split at h <;> first|cases ‹Value.agg cs=_› | cases h
theorem zId{W:World}{b:Nat}{t:TypeId}{v u:Value}(h:Value.okWide P W .any b t v)(c:(match P.underlying t with|some (.struct _)=>false|some (.array _ _)=>false|_=>true)=true)(d:v.cells.toList=[u]):v=u:=by
 cases v <;> first
  |(simp [Value.cells] at d;exact d)
  |(rename_i cs;rcases notAgg h rfl with ⟨fs,f⟩|⟨n,e,f⟩ <;> rw [f] at c <;> cases c)
theorem zPS{W:World}{b:Nat}{t:TypeId}{v:Value}{cs:List Value}(h:Value.okWide P W .any b t v)(e:(match P.underlying t with|some (.struct _)=>true|some (.array _ _)=>true|_=>false)=true)(d:v.cells.toList=cs):v=.agg cs.toArray:=by
 unfold Value.okWide at h;split at h
 ·obtain⟨c,rfl,_⟩:=h;simp [Value.cells] at d;simp [<-d]
 ·obtain⟨c,rfl,_⟩:=h;simp [Value.cells] at d;simp [<-d]
 ·rename_i f g;split at e
  ·exact absurd ‹_› (f _)
  ·exact absurd ‹_› (g _ _)
  ·cases e
theorem zFS{H:Type}{g:TypeId×Value->H}(l:laidOutB P=true){W o:World}(r:Go.RowKit.Below W.heap.size W o):∀{ts:List TypeId} {vs:List Value} {ds:List (DataW H)} {ps:List MemPlace},ts.all (λt=>P.readableRec t && decide (t<P.types.size))=true ->
  DataW.TrodAll g P W 0 (λ_=>true) true ts vs ds ps->(∀x∈ps,x.block<W.heap.size)->DataW.TrodAll g P o 0 (λb=>decide (b<W.heap.size)) true ts vs ds ps
 |[],[],[],_,_,h,_=>h
 |[],[],_::_,_,_,h,_=>h.elim
 |[],_::_,_,_,_,h,_=>h.elim
 |_::_,[],_,_,_,h,_=>h.elim
 |_::_,_::_,[],_,_,h,_=>h.elim
 |t::ts,v::vs,d::ds,ps,c,⟨p,q,s,w,e⟩,hlt=>by
  simp only [Ye,Qz,decide_eq_true_eq] at c;subst e
  exact⟨p,q,Go.RowKit.Below.trod l c.1.1 c.1.2 s r λx f=>hlt x (QN _ f),
   zFS l r (by simpa using c.2) w λx f=>hlt x (JJ _ f),rfl⟩
theorem Ext.kept{W c:World}{b:MemPlace->Prop}(h:Ext W c):W.keptBut c b:=by
 refine⟨h.os,h.output,λi hi=>?_⟩;rw [h.below.block i hi];have:∃o,W.heap[i]? = some o:=⟨_,QT hi⟩;obtain⟨o,d⟩:=this;rw [d];cases o <;> simp
theorem zCl{H:Type}{c:TypeId×Value->H}{W:World}{b:Nat}{d:Nat->Bool}{hd:Bool}:∀{ts:List TypeId} {vs:List Value} {ds:List (DataW H)} {ps:List MemPlace},DataW.TrodAll c P W b d hd ts vs ds ps->ds.length=ts.length
 |[],[],[],_,_=>rfl
 |[],[],_::_,_,h=>h.elim
 |[],_::_,_,_,h=>h.elim
 |_::_,[],_,_,h=>h.elim
 |_::_,_::_,[],_,h=>h.elim
 |_::_,_::_,_::_,_,⟨_,_,_,h,_⟩=>congrArg (· + 1) (zCl h)
theorem zPa{C:Checked}{os:Os}{f:FuncId}{c:Func}{s:ChangeSpec}{H:Type}{I:TypeId×Value->H}{tb:TypeId}
  (own:ownKnob C.prog.godebug=none)(d:os.Started)(y:C.prog.inits.idxOf? f=none)(K:C.prog.funcs[f]? = some c)
  (l:∃(w:World) (b:Tape) (i:Input),w.os=os/\(w.forCall b i).Shaped C.prog/\i.vars=[]/\Input.okWide C.prog (w.forCall b i) .any w.heap.size f i /\
   s.pre6 I C.prog c [] false (w.forCall b i).memory i.args/\({}:Assume).holds C.prog (lone (Frame.enter C.prog f i.args .normal) [] (w.forCall b i)))
  (Y:laidOutB C.prog=true)(L:c.params.toList.all (λt=>C.prog.readableRec t && decide (t<C.prog.types.size))=true)(M:s.vars=[])(Z:c.resultTypes=#[tb])(hb:C.prog.underlying tb=some .bool)
  (O:∀ds:List (DataW H),ds.length=c.params.size->s.fn H ds = { results:=[.lit (.bool true)],args:=ds })
  (Q:∀(W:World) (o:Nat) (args:Array Value) (ds:List (DataW H)) (ps:List MemPlace),(∀(j:Nat) t v,c.params[j]? = some t->args[j]? = some v->Value.okWide C.prog W .any o t v) ->
   DataW.TrodAll I C.prog W 0 (λ_=>true) true c.params.toList args.toList ds ps->(DataW.weightsEach C.prog c.params.toList ds).all (·<=reachBytes)=true->Sp C.prog f args W λv V=>v=.bool true/\Ext W V):
  ReturnsInHanded {} C os f .any (s.pre6 I C.prog c [] false) (s.post I C.prog c false true false false):=by
 refine returnsInHanded_of_change_sized own d y K l ?_;intro W o args ds X J z R _ A _;have hlt:=R.lt;have S:=R;obtain⟨p,q,E,T,rfl,a0,a1⟩:=R;rw [M] at T
 have U:X=[]/\q=[]:=by
  cases X with
  |nil=>exact⟨rfl,T⟩
  |cons g r=>exact T.elim
 obtain⟨rfl,rfl⟩:=U
 have F:(DataW.weightsEach C.prog c.params.toList ds).all (·<=reachBytes)=true:=by
  have:s.plain.varTypes C.prog=[]:=by simp [DataSpec.varTypes,ChangeSpec.plain,M]
  rw [this] at A;simpa using A
 refine(Q W o args ds p z E F).calls.mono λe V G=>?_;cases e <;> try exact G.elim
 rename_i v;obtain⟨rfl,G⟩:=G;refine⟨_,rfl,ds,[],p++[],[],p,[],S,?_,?_,?_,G.kept,λh=>by cases h⟩
 ·rw [QE,O ds (by have:=zCl E;simpa using this),Z];exact Go.ChangeShapes.trodAll_mk1 (Go.RowKit.shut_bool hb _)
 ·rw [QE,O ds (by have:=zCl E;simpa using this)];exact zFS Y G.below L E λx hx=>hlt x (by simpa using hx)
 ·rw [QE,O ds (by have:=zCl E;simpa using this),M];rfl
end
structure YieldS (P:Program) (l:Nat) (vs:List Value) (w:World) (R:Bool->World->Prop):Prop where
 out:∃r:Loop,w.heap[l]? = some (.loop r)/\vs.length=r.params.size /\
  RoundIn Fence.wide 0 P l r.fn ((r.params.zip vs.toArray).foldl (λtmps (t,a)=>tmps.setIfInBounds t a) r.tmps) r.assign r.body w (RetP (λv w'=>∃b,v=.bool b/\R b w') (λ_ _=>False))
abbrev yl (l:Nat):Value:=.func (.yield l) #[] #[]
section
variable {P:Program}
theorem ryield{o:Oper}{F:Nat->Value}{c:Call}{f:Operand}{l:Nat}{vs:List Value}{k:Value->World->Prop}{p:List PanicEntry->World->Prop}{w:World}
  (q:o.op=.call c)(s:c.callee=.value f)(x:ev F f=yl l)(y:evL F c.args.toList=vs){R:Bool->World->Prop}(h:YieldS P l vs w R)(z:∀b w',R b w'->k (.bool b) w'):NextS P (execOp (ev F) o) k p w:=by
 obtain⟨r,A,C,E⟩:=h.out;have d:c.args.map (ev F)=vs.toArray:=by rw [<-y,zBe]
 have e:(execOp (ev F) o).run P w=.ok (.round l r.fn ((r.params.zip vs.toArray).foldl (λtmps (t,a)=>tmps.setIfInBounds t a) r.tmps) r.assign r.body) w:=by
  unfold execOp;simp only [q,resolve,s,x,Deferred.ofValue,d];simp only [pure_bind,invoke];have:=run_yield (P:=P) (args:=vs.toArray) A (by simpa using C);simpa [yl] using this
 rw [zBi,e]
 exact⟨E.mono λe w' g=>by
  cases e with
  |returned v=>obtain⟨b,rfl,G⟩:=g;exact z b w' G
  |panicked c=>exact g.elim
  |outgrown=>exact g.elim⟩
structure Qt (B:Nat) (u u':World):Prop where
 os:u'.os=u.os
 tape:u'.tape=u.tape
 output:u'.output=u.output
 size:u.heap.size<=u'.heap.size
 block:∀b o,u.heap[b]? = some o->(b<B\/isRec o=false)->u'.heap[b]? = some o
theorem Qt.of_ext(e:Ext u u'):Qt B u u':=⟨e.os,e.tape,e.output,e.size,λb o c _=>by rw [e.block b (blk_lt c) id];exact c⟩
theorem Qt.put{l:Nat}{o o':Obj}(d:u.heap[l]? = some o)(e:isRec o=true)(g:B<=l):Qt B u (u.putObj l o'):=
 ⟨rfl,rfl,rfl,by simp,λb x c f=>by
  rw [Jk]
  ·exact c
  ·rintro rfl;rw [d] at c;cases c;rcases f with h|h
   ·omega
   ·rw [e] at h;cases h⟩
theorem Fr.qt{w:World}(h:Fr D w u)(q:Qt w.heap.size u u'):Fr D w u':=
 ⟨q.os.trans h.os,q.tape.trans h.tape,q.output.trans h.output,Qw h.size q.size,λb c hd=>by
  have e:=h.block b c hd;rw [<-e];have:∃o,u.heap[b]? = some o:=⟨_,QT (QJ c h.size)⟩;obtain⟨o,d⟩:=this;rw [d];exact q.block b o d (.inl c),λb o c d=>q.block b o (h.nc b o c d) (.inl (blk_lt c))⟩
theorem Stp.qt{w:World}(h:Stp w u)(q:Qt w.heap.size u u'):Stp w u':=⟨h.e.qt q⟩
theorem Qt.mono{B':Nat}(q:Qt B u u')(h:B'<=B):Qt B' u u':=⟨q.os,q.tape,q.output,q.size,λb o c d=>q.block b o c (d.imp (λe=>by omega) id)⟩
theorem zPZ(q:Qt B u u'){a:Addr}{v:Value}(b:u.cell? a=some v):u'.cell? a=some v:=by
 have hlt:=XA u a b;have:∃o,u.heap[a.block]? = some o:=⟨_,QT hlt⟩;obtain⟨o,c⟩:=this
 have d:isRec o=false:=by
  unfold World.cell? at b;rw [c] at b;cases o <;> first|rfl|simp at b
 rw [World.cell?_of_block (w:=u) (by rw [c];exact q.block _ _ c (.inr d))];exact b
theorem At.qt{b o:Nat}{cs:List Value}(h:At u b o cs)(q:Qt B u u'):At u' b o cs:=λj v c=>zPZ q (h j v c)
theorem blk_qt{b:Nat}{cs:Array Value}{e:TypeId}{z:Nat×Nat}(h:u.heap[b]? = some (.cells cs e z))(q:Qt B u u'):u'.heap[b]? = some (.cells cs e z):=q.block b _ h (.inr rfl)
theorem SlF.qt{α:Type}[Enc α]{v:Value}{l:List α}(h:SlF u v l)(q:Qt B u u'):SlF u' v l:=by
 obtain⟨a,c,e,f,h⟩:=h;exact⟨a,c,e,f,h.imp id λ⟨b,o,g,d⟩=>⟨b,o,g,d.qt q⟩⟩
theorem Own.qt{α:Type}[Enc α]{C:Nat}{e:TypeId}{v:Value}{l:List α}(h:Own C e u v l)(q:Qt B u u'):Own C e u' v l:=by
 rcases h with h|h
 ·exact .inl h
 ·refine .inr ⟨h.1,?_⟩;rcases h.2 with c|⟨g,cap,b,rfl,d,f,rest⟩
  ·exact .inl c
  ·exact .inr ⟨g,cap,b,rfl,d,blk_qt f q,rest⟩
structure SeqOf (P:Program) (g:FuncId) (first cap:List Value) (Dat:World->Prop) (xs:List (List Value)):Prop where
 out:∀(l:Nat) (J:Nat->World->Prop) (Jx:World->Prop) (w:World),(∀i u u',J i u->Ext u u'->J i u')->(∀u u',Jx u->Ext u u'->Jx u')->(∀i u,J i u->Dat u) ->
  (∀i u x,xs[i]? = some x->J i u->YieldS P l x u λb u'=>(b=true/\J (i+1) u')\/(b=false/\Jx u'))->J 0 w ->
  Sp P g (first++[yl l]++cap).toArray w λ_ w'=>J xs.length w'\/Jx w'
def rdF (F:Nat->Value):List Nat->List Value->Nat->Value
 |s::r,v::vs=>rdF (upd F s v) r vs
 |_,_=>upd F 4294967296 undef
theorem zFJ(d:n<=4294967296):∀(ps:List Nat) (vs:List Value) (F:Nat->Value) (a:Act),Rel n F a->(∀s∈ps,s<n)->vs.length=ps.length ->
  Rel n (rdF F ps vs) { tmps:=(ps.zip vs).foldl (λt (s,v)=>t.setIfInBounds s v) a.tmps,defers:=[] }
 |[],vs,F,a,h,_,b=>by
  have:vs=[]:=Qn (by simpa using b);subst this;refine⟨h.size,d,?_,λt e=>?_⟩
  ·show []=decD (upd F 4294967296 undef 4294967296);unfold upd;rw [show Nat.beq 4294967296 4294967296=true from rfl];rfl
  ·have l:Nat.beq t 4294967296=false:=by
    cases o:Nat.beq t 4294967296 with
    |false=>rfl
    |true=>exact absurd (QD o) e
   show a.tmps.getD t undef=upd F 4294967296 undef t;unfold upd;rw [l];exact h.get t e
 |s::r,[],_,_,_,_,b=>by simp at b
 |s::r,v::vs,F,a,h,f,b=>by
  have c:Rel n (upd F s v) (a.put (some s) v):=by
   have p:putS n F (some s) v (λg=>g=upd F s v):=by
    simp only [putS];have:Nat.blt s n=true:=by simpa [Xe] using f s (Qs ..)
    rw [this];trivial
   obtain⟨g,q,_,rfl⟩:=h.put p;exact q
  have:=zFJ d r vs (upd F s v) (a.put (some s) v) c (λx w=>f x (QF _ w)) (by simpa using b);simpa [rdF,Act.put] using this
def allLt (n:Nat):List Nat->Bool
 |[]=>true
 |s::r=>Nat.blt s n && allLt n r
theorem zEe:∀{l:List Nat},allLt n l=true->∀s∈l,s<n
 |[],_,s,b=>by cases b
 |x::r,h,s,b=>by
  simp only [allLt,Qz] at h;rcases Ql.1 b with rfl|b
  ·simpa [Xe] using h.1
  ·exact zEe h.2 s b
abbrev markF (F:Nat->Value) (D:Nat):Nat->Value:=upd F 4294967296 (consD (.pointer (some ⟨D,0,none⟩)) (F 4294967296))
theorem fw_in(r:Option Nat)(l:Nat):(fw r).inRound l=fw (some l):=rfl
theorem rrange{T:Tab}(hT:T.ok P=true)(hr:T.round=false){g:Operand}{ps:Array Tmp}{assign body:Code}{Q:KS}{F:Nat->Value}{w:World}{gf:FuncId}{first cap:List Value}{xs:List (List Value)}{a0:World->Prop}
  (hg:ev F g=.func (.func gf) first.toArray cap.toArray)(a8:allLt n ps.toList=true)
  (a2:SeqOf P gf first cap a0 xs)(a9:∀x∈xs,x.length=ps.toList.length)
  (I:Nat->World->Prop)(M:Code->World->Prop)(hI:∀i u u',I i u->Qt w.heap.size u u'->I i u')(H:∀c u u',M c u->Qt w.heap.size u u'->M c u')(hD:∀i u,I i u->a0 u)(h0:I 0 w)
  (J:∀i x u,xs[i]? = some x->I i u->S P { T with round:=true } n assign
   { nrm:=λF1 u1=>Ext u u1/\(∀c,Qt w.heap.size u1 c->S P { T with round:=true } n body { nrm:=λ_ L=>I (i+1) L/\∃D,Fr D c L,ext:=λj _ L=>M (.exit j) L/\∃D,Fr D c L,ret:=λ_ L=>M .ret L/\∃D,Fr D c L,pan:=λ_ _ _=>False } F1 c),ext:=λ_ _ _=>False,ret:=λ_ _=>False,pan:=λ_ _ _=>False } (rdF F ps.toList x) u)
  (O:∀D u,I xs.length u->w.heap.size<=D->u.heap[D]? = some (.deferred (some []))->Q.nrm (markF F D) u)
  (R:∀c D u,M c u->w.heap.size<=D->u.heap[D]? = some (.deferred (some []))->match c with | .ret=>Q.ret (markF F D) u | .exit j=>Q.ext j (markF F D) u|_=>False):
  DeepS P T n (.rangeFunc g ps assign body) Q F w:=by
 rw [zAE];intro md a4 a U;have b0:md=none:=by cases md with|none=>rfl|some _=>rw [hr] at a4;cases a4
 subst b0;refine wpIn_rangeFunc ?_;intro fn _;have b1:(fw none).round=none:=rfl;rw [b1];obtain⟨rec,f⟩:∃rec:LoopState->Option Code->Loop,rec=λst pe=>{ state:=st,pending:=pe,fn,tmps:=a.tmps,params:=ps,assign,body,defers:=w.heap.size }:=⟨_,rfl⟩;obtain⟨p,K⟩:∃p,(w.alloc (.deferred (some []))).alloc (.loop (rec .ready none))=p:=⟨_,rfl⟩;have b2:Ext w p:=by rw [<-K];exact(Ext.alloc w _).t (Ext.alloc _ _)
 have b3:p.heap[w.heap.size+1]? = some (.loop (rec .ready none)):=by
  rw [<-K];have:=Xd (w.alloc (.deferred (some []))) (.loop (rec .ready none));rwa [World.size_alloc] at this
 have b4:p.heap[w.heap.size]? = some (.deferred (some [])):=by
  rw [<-K];exact(VD _ _ _ (by simp)).trans (Xd w _)
 have b5:a.eval g=.func (.func gf) first.toArray cap.toArray:=by rw [U.eval];exact hg
 have A:=a2.out (w.heap.size+1)
  (λi u=>I i u/\u.heap[w.heap.size+1]? = some (.loop (rec .ready none))/\u.heap[w.heap.size]? = some (.deferred (some [])))
  (λu=>∃c,M c u/\u.heap[w.heap.size+1]? = some (.loop (rec .done (some c)))/\u.heap[w.heap.size]? = some (.deferred (some []))) p
  (λi u u' h e=>⟨hI i u u' h.1 (.of_ext e),e.nc _ _ h.2.1 rfl,e.nc _ _ h.2.2 rfl⟩)
  (λu u' h e=>by obtain⟨c,q,r,C⟩:=h;exact⟨c,H c u u' q (.of_ext e),e.nc _ _ r rfl,e.nc _ _ C rfl⟩)
  (λi u h=>hD i u h.1) ?_ ⟨hI 0 w p h0 (.of_ext b2),b3,b4⟩
 ·refine⟨w.heap.size+1,[{ target:=.collected w.heap.size,args:=#[] }],p,{ target:=.fn (.func gf) cap.toArray,args:=first.toArray++#[yl (w.heap.size+1)] },p,gf,
   (first++[yl (w.heap.size+1)]++cap).toArray,p,?_,?_,λ_ _=>trivial,?_,λh=>by simp [fw,Fence.wide] at h,?_⟩
  ·rw [<-K,f];exact run_enterLoop_outer _ _ _ _ _
  ·simp only [resolve,b5];simp [Deferred.ofValue,yl,Act.eval]
  ·have:(callFunc gf (first++[yl (w.heap.size+1)]++cap).toArray).run P p=.ok (.enter gf (first++[yl (w.heap.size+1)]++cap).toArray) p:=zAW A.can p;simpa [invoke] using this
  ·refine zEg none (A.calls.mono ?_);intro e u he
   have o:∀u:World,Rel n (markF F w.heap.size) { a with defers:=[{ target:=.collected w.heap.size,args:=#[] }]++a.defers }:=λ_=>by
    refine⟨U.size,U.le,?_,λt ht=>?_⟩
    ·show _::a.defers=decD (markF F w.heap.size 4294967296);unfold markF upd;rw [show Nat.beq 4294967296 4294967296=true from rfl,cond_true,U.defers];exact(zDn _ _ _ rfl).symm
    ·have hb:Nat.beq t 4294967296=false:=by
      cases V:Nat.beq t 4294967296 with
      |false=>rfl
      |true=>exact absurd (QD V) ht
     show a.tmps.getD t undef=markF F w.heap.size t;unfold markF upd;rw [hb];exact U.get t ht
   have W:agree (wr (.rangeFunc g ps assign body)) F (markF F w.heap.size):=by
    intro t ht;unfold markF upd;have:Nat.beq t 4294967296=false:=ht;rw [this];rfl
   cases e with
   |returned v =>
    rcases he with ⟨q,r,C⟩|⟨c,q,r,C⟩
    ·refine⟨none,u.putObj (w.heap.size+1) (.loop { rec .ready none with state:=.exhausted }),?_,?_⟩
     ·have:=run_endLoop (P:=P) r (by rw [f];simp);rw [f] at this ⊢;exact this
     ·exact⟨_,o u,W,O _ _ (hI _ _ _ q (Qt.put r rfl (by omega))) (Qe _) ((Jk (by omega)).trans C)⟩
    ·refine⟨some c,u.putObj (w.heap.size+1) (.loop { rec .done (some c) with state:=.exhausted }),?_,?_⟩
     ·have:=run_endLoop (P:=P) r (by rw [f];simp);rw [f] at this ⊢;exact this
     ·have hs:=R c w.heap.size _ (H _ _ _ q (Qt.put (o':=.loop { rec .done (some c) with state:=.exhausted }) r rfl (by omega))) (Qe _) ((Jk (by omega)).trans C);cases c <;> first|exact hs.elim|skip
      ·exact wpIn_exit ⟨_,o u,W,hs⟩
      ·exact wpIn_ret ⟨_,o u,W,hs⟩
   |panicked c=>exact he.elim
   |outgrown=>exact he.elim
 ·-- one round
  intro i u x hx hh;obtain⟨hi,hl,hk⟩:=hh;have hlt:=blk_lt hl;have a5:=a9 x (Jy hx);have y:rec .ready none = { state:=.ready,pending:=none,fn,tmps:=a.tmps,params:=ps,assign,body,defers:=w.heap.size }:=by rw [f]
  refine⟨rec .ready none,hl,by rw [y];simpa using a5,?_⟩
  have b6:(((rec .ready none).params.zip x.toArray).foldl (λtmps (t,a)=>tmps.setIfInBounds t a) (rec .ready none).tmps)=(ps.toList.zip x).foldl (λt (s,v)=>t.setIfInBounds s v) a.tmps:=by
   rw [y];show (ps.zip x.toArray).foldl _ a.tmps=_;rw [<-Array.foldl_toList];simp
  have o:=zFJ U.le ps.toList x F a U (zEe a8) a5;have hR:=J i x u hx hi;have e1:(rec .ready none).fn=fn:=by rw [y]
  have e2:(rec .ready none).assign=assign:=by rw [y]
  have e3:(rec .ready none).body=body:=by rw [y]
  rw [b6,e1,e2,e3];have a6:({ T with round:=true }:Tab).ok P=true:=hT
  have E:RoundIn (fw none) 0 P (w.heap.size+1) fn ((ps.toList.zip x).foldl (λt (s,v)=>t.setIfInBounds s v) a.tmps) assign body u
    (RetP (λv w'=>∃b,v=.bool b/\((b=true/\(I (i+1) w'/\w'.heap[w.heap.size+1]? = some (.loop (rec .ready none))/\w'.heap[w.heap.size]? = some (.deferred (some [])))) \/
     (b=false/\∃c,M c w'/\w'.heap[w.heap.size+1]? = some (.loop (rec .done (some c)))/\w'.heap[w.heap.size]? = some (.deferred (some []))))) (λ_ _=>False)):=by
   refine roundIn_of_wpIn trivial ?_;rw [fw_in];refine Jb ?_ (zBR a6 assign _ _ _ hR (some (w.heap.size+1)) rfl _ o);intro e a1 u1 V;cases e <;> simp only [KS.lift,Exit.then] at V ⊢
   case normal =>
    obtain⟨F1,q,_,hE,hb⟩:=V;have X:=hE.nc _ _ hl rfl;have b7:=hE.nc _ _ hk rfl;refine⟨_,run_beginRound X (by rw [y]),?_⟩;have a7:=blk_lt X;have b8:(u1.putObj (w.heap.size+1) (.loop { rec .ready none with state:=.busy })).heap[w.heap.size+1]? = some (.loop { rec .ready none with state:=.busy }):=VX a7;have b9:(u1.putObj (w.heap.size+1) (.loop { rec .ready none with state:=.busy })).heap[w.heap.size]? = some (.deferred (some [])):=(Jk (by omega)).trans b7;have Y:=hb _ (Qt.put (o':=.loop { rec .ready none with state:=.busy }) X rfl (by omega));refine Jb ?_ (zBR a6 body _ _ _ Y (some (w.heap.size+1)) rfl a1 q)
    have fin:∀(d:Option Code) (z:World),(∃D,Fr D (u1.putObj (w.heap.size+1) (.loop { rec .ready none with state:=.busy })) z) ->
      (Instr.endRound (w.heap.size+1) d).run P z=.ok (.bool d.isNone) (z.putObj (w.heap.size+1) (.loop (rec (if d.isNone then .ready else .done) d))) /\
      (Qt w.heap.size z (z.putObj (w.heap.size+1) (.loop (rec (if d.isNone then .ready else .done) d)))) /\
      (z.putObj (w.heap.size+1) (.loop (rec (if d.isNone then .ready else .done) d))).heap[w.heap.size+1]? = some (.loop (rec (if d.isNone then .ready else .done) d)) /\
      (z.putObj (w.heap.size+1) (.loop (rec (if d.isNone then .ready else .done) d))).heap[w.heap.size]? = some (.deferred (some [])):=λd z l=>by
     obtain⟨D,l⟩:=l;have Z:=l.nc _ _ b8 rfl;have:=run_endRound (P:=P) d Z;refine⟨?_,Qt.put Z rfl (by omega),VX (blk_lt Z),(Jk (by omega)).trans (l.nc _ _ b9 rfl)⟩;rw [f] at this ⊢;exact this
    intro e a3 z hp;cases e <;> simp only [KS.lift,roundPost] at hp ⊢
    case normal =>
     obtain⟨_,_,_,G,l⟩:=hp;obtain⟨q,r,C,h4⟩:=fin none z l;exact⟨_,_,q,_,rfl,.inl ⟨rfl,hI _ _ _ G r,C,h4⟩⟩
    case exit j =>
     obtain⟨_,_,_,G,l⟩:=hp;obtain⟨q,r,C,h4⟩:=fin (some (.exit j)) z l;exact⟨_,_,q,_,rfl,.inr ⟨rfl,_,H _ _ _ G r,C,h4⟩⟩
    case ret =>
     obtain⟨_,_,_,G,l⟩:=hp;obtain⟨q,r,C,h4⟩:=fin (some .ret) z l;exact⟨_,_,q,_,rfl,.inr ⟨rfl,_,H _ _ _ G r,C,h4⟩⟩
    case panic c=>obtain⟨_,_,_,h⟩:=hp;exact h.elim
   case exit j=>obtain⟨_,_,_,h⟩:=V;exact h.elim
   case ret=>obtain⟨_,_,_,h⟩:=V;exact h.elim
   case panic c=>obtain⟨_,_,_,h⟩:=V;exact h.elim
  exact E
end
class Bk (x:outParam World) (b:Nat) (cs:outParam (List Value)) (e:outParam TypeId):Prop where
 h:x.heap[b]? = some (.cells cs.toArray e (0,0))
theorem Bk.up{x w:World}{b:Nat}{cs:List Value}{e:TypeId}(B:Bk x b cs e)[L:Le x w]:w.heap[b]? = some (.cells cs.toArray e (0,0)):=upb (h:=L) B.h
theorem Bk.at{x w:World}{b:Nat}{cs:List Value}{e:TypeId}(B:Bk x b cs e)[L:Le x w]:At w b 0 cs:=by have:=At.blk (upb (h:=L) B.h);simpa using this
theorem Bk.lt{x:World}{b:Nat}{cs:List Value}{e:TypeId}(B:Bk x b cs e):b<x.heap.size:=blk_lt B.h
theorem Bk.fr{x w:World}{b:Nat}{cs:List Value}{e:TypeId}(B:Bk x b cs e)(f:Fr D x w)(hd:¬D b):Bk w b cs e:=⟨f.blk B.h hd⟩
theorem Bk.mv{x w:World}{b:Nat}{cs:List Value}{e:TypeId}(B:Bk x b cs e)[L:Le x w]:Bk w b cs e:=⟨B.up⟩
theorem Bk.qt{b:Nat}{cs:List Value}{e:TypeId}(h:Bk u b cs e)(q:Qt B u u'):Bk u' b cs e:=⟨blk_qt h.h q⟩
class Nx (w:outParam World) (w':World) (b:outParam Nat):Prop where
 b:b=w.heap.size
 s:w'.heap.size=w.heap.size+1
 e:Ext w w'
 g:∃o,w'=w.alloc o
instance Nx.stp {w w':World} {b:Nat} [n:Nx w w' b]:Stp w w':=⟨n.e⟩
section
variable {P:Program} {k:Value->World->Prop} {pn:List PanicEntry->World->Prop} {w:World}
theorem Nx.mk'(w:World)(o:Obj):Nx w (w.alloc o) w.heap.size:=⟨rfl,by simp,Ext.alloc w o,o,rfl⟩
theorem rbx{e:TypeId}{v:Value}(c:∀b w',Nx w w' b->Bk w' b v.cells.toList e->k (.pointer (some ⟨b,0,none⟩)) w'):SemV P (Instr.box e v) k pn w:=
 SemV.of (v:=.pointer (some ⟨w.heap.size,0,none⟩)) (w':=w.alloc (.cells v.cells e)) (by rfl) (c _ _ (Nx.mk' w _) ⟨by rw [heap_alloc_new]⟩)
theorem ral{e:TypeId}{z:Value}{sz c:Nat}[d:Elem P e z sz c](f:∀b w',Nx w w' b->Bk w' b z.cells.toList e->k (.pointer (some ⟨b,0,none⟩)) w'):SemV P (Instr.alloc e true (.tuple #[])) k pn w:=by
 obtain⟨i,hi,g,_,_⟩:=info_parts d.h;exact SemV.of (v:=.pointer (some ⟨w.heap.size,0,none⟩)) (w':=w.alloc (.cells z.cells e)) (by simp [Instr.alloc,zeroValue,typeInfo,hi,g,newVar,newRow]) (f _ _ (Nx.mk' w _) ⟨by rw [heap_alloc_new]⟩)
theorem rld{t:TypeId}[f:One P t]{x:World}{b o:Nat}{cs:List Value}{e:TypeId}[B:Bk x b cs e][L:Le x w]{v:Value}(c:nth cs o=some v)(d:k v w):SemV P (Instr.loadAt t (.pointer (some ⟨b,o,none⟩))) k pn w:=
 rload1 (by have:=(Bk.at (w:=w) B).cell o (v:=v) (by rw [<-nth_eq];exact c);rwa [JO] at this) d
theorem rldG{t:Nat}[g:Agg P t n]{x:World}{b o:Nat}{cs:List Value}{e:TypeId}[B:Bk x b cs e][L:Le x w]{ds:List Value}(c:(cs.drop o).take n=ds)(d:ds.length=n)(f:k (.agg ds.toArray) w):SemV P (Instr.loadAt t (.pointer (some ⟨b,o,none⟩))) k pn w:=
 rloadA (by have:=(Bk.at (w:=w) B).sub o n;rw [c,JO] at this;exact this) d f
theorem rres{t:TypeId}[f:One P t]{x:World}{b o:Nat}{cs:List Value}{e:TypeId}[B:Bk x b cs e][L:Le x w]{v:Value}{k:Value->Prop}(c:nth cs o=some v)(d:k v):LoadR P t ⟨b,o,none⟩ k w:=
 rres1 (by have:=(Bk.at (w:=w) B).cell o (v:=v) (by rw [<-nth_eq];exact c);rwa [JO] at this) d
theorem rresG{t:Nat}[f:Agg P t n]{x:World}{b:Nat}{cs:List Value}{e:TypeId}[B:Bk x b cs e][L:Le x w]{k:Value->Prop}(c:cs.length=n)(d:k (.agg cs.toArray)):LoadR P t ⟨b,0,none⟩ k w:=
 rresA (Bk.at B) c d
theorem rsto{t:TypeId}[o:Size P t n]{x:World}{b off:Nat}{cs:List Value}{e:TypeId}[B:Bk x b cs e][L:Le x w]{v:Value}{vs:List Value}(d:v.cells.toList=vs)(g:vs.length=n)(c:Nat.ble (off+n) cs.length=true)(h:∀u∈vs,u.oneCell'=true)
  (l:∀w',Bk w' b (splice cs off vs) e->Fr (λi=>i=b) w w'->w'.heap.size=w.heap.size->k undef w'):SemU P (Instr.storeAt t (.pointer (some ⟨b,off,none⟩)) v) k pn w:=
 rst (Bk.up B) d g (by have:=Vf c;simpa using this) h λw' a f s=>l w' ⟨by simpa using a⟩ f s
theorem Fr.one{w:World}{b:Nat}(f:Fr (λi=>i=b) w w')(h:u.heap.size<=b):Stw u w w':=f.stw λ_ hi=>hi ▸ h
theorem Nx.lo{w:World}{b:Nat}(n:Nx w w' b)[L:Le u w]:u.heap.size<=b:=by rw [n.b];exact L.e.size
theorem zNl(e:BinOp)(t:TypeId)(x y:Operand)(a b:Option Addr)(n m c d:Nat)(w:World):(eqGuard e t x y (.slice a n c) (.slice b m d)).run P w=.ok () w:=by
 cases e <;> rfl
theorem zH4(d:Nat){t e:TypeId}(b:P.underlying t=some (.slice e))(a:Option Addr)(n c:Nat)(w:World):(Op.equalIn (d+1) t (.slice a n c) (.slice none 0 0)).run P w=.ok a.isNone w:=by
 cases a <;> simp [Op.equalIn,run_underlying b]
theorem rsnil{t e:TypeId}[b:SlT P t e]{x y:Operand}{c:Nat}(d:a=none->k (.bool true) w)(f:a≠none->k (.bool false) w):SemV P (do eqGuard .eql t x y (.slice a n c) (.slice none 0 0);binOp .eql t (.slice a n c) (.slice none 0 0)) k pn w:=by
 refine zF5 (p:=a=none) a.isNone ?_ (by cases a <;> simp) d f;rw [Qo,zNl,Qh];simp only [binOp];rw [Qo,show (Op.equal t (.slice a n c) (.slice none 0 0)).run P w=.ok a.isNone w from zH4 9999 b.h a n c w];rfl
end
section
variable {P:Program}
theorem leave1{b:List ResultVar}{F:Nat->Value}{D:Nat}{args:Array Value}{R:Value->World->Prop}{d:List PanicEntry->World->Prop}(c:u.heap[D]? = some (.deferred (some [])))
  (h:∀u',(∀B,B<=D->Qt B u u')->resS P b [] F R u'):LeaveS P b F [{ target:=.collected D,args }] .returning R d u:=
 zHJ (by intro h;cases h) c (leave_ret (h _ λB e=>Qt.put c rfl e))
end
def selN (q:Nat->Bool) (n:Nat):List Nat:=(List.range n).filter q
theorem zFN(q:Nat->Bool)(n:Nat):selN q (n+1)=if q n then selN q n++[n] else selN q n:=by
 unfold selN;rw [Jm,QV];cases h:q n <;> simp [h]
theorem zBX{q:Nat->Bool}(d:k<n)(b:q k=true):(selN q n)[(selN q k).length]? = some k:=by
 induction n with
 |zero=>omega
 |succ n c =>
  rw [zFN];rcases QH k n with h|h
  ·have:=c h;split
   ·rw [VL (Qy.1 this).1];exact this
   ·exact this
  ·obtain rfl:k=n:=by omega
   rw [if_pos b];simp
theorem zHn{q:Nat->Bool}:k∈selN q n↔k<n/\q k=true:=by simp [selN]
theorem zD3(q:Nat->Bool)(n:Nat):(selN q n).length<=n:=by unfold selN;exact Qw (Qv _ _) (by simp)
section
variable {P:Program} {T:Tab} {n:Nat}
theorem cnt(d:T.ok P=true)(m:Nat)(keep:List Nat)(s:Nat)(N:Nat)(I:Nat->World->Prop){body:Code}{Q:KS}{F:Nat->Value}{w:World}
  (b:okB m keep [s] body=true)(e:F s=.int .i64 0)(h0:I 0 w)
  (f:∀(k:Nat) g w,k<=N->I k w->S P T n body { Q with nrm:=λl w'=>l s=.int .i64 ((k:Int)+1)/\k<N/\I (k+1) w' } (hdF m keep [(s,.int .i64 k)] g F) w):DeepS P T n (.loop body) Q F w:=by
 refine loop1 d m keep s (λv w=>∃k:Nat,k<=N/\v=.int .i64 k/\I k w) (λv _=>N - (Go.RowKit.intOf v).toNat) b ⟨0,by omega,e,h0⟩ ?_;rintro v g w ⟨k,o,rfl,hi⟩;refine S_mono _ _ _ _ _ (f k g w o hi) ?_ (λ_ _ _ _ h=>h) (λ_ _ _ h=>h) (λ_ _ _ _ h=>h);intro G w' _ h;obtain⟨c,p,q⟩:=h;refine⟨⟨k+1,p,c,q⟩,?_⟩;show N - (Go.RowKit.intOf (G s)).toNat<N - _;rw [c];show N - ((k:Int)+1).toNat<N - ((k:Int)).toNat;omega
theorem cnt1(l:T.ok P=true)(m:Nat)(keep:List Nat)(c s:Nat)(N:Nat)(I:Nat->Value->World->Prop){body:Code}{Q:KS}{F:Nat->Value}{w:World}
  (d:okB m keep [c,s] body=true)(o:F s=.int .i64 0)(h0:I 0 (F c) w)
  (p:∀(k:Nat) b g w,k<=N->I k b w->S P T n body { Q with nrm:=λe w'=>e s=.int .i64 ((k:Int)+1)/\k<N/\I (k+1) (e c) w' } (hdF m keep [(c,b),(s,.int .i64 k)] g F) w):DeepS P T n (.loop body) Q F w:=by
 refine loop2 l m keep c s (λb v w=>∃k:Nat,k<=N/\v=.int .i64 k/\I k b w) (λ_ v _=>N - (Go.RowKit.intOf v).toNat) d ⟨0,by omega,o,h0⟩ ?_;rintro b v g w ⟨k,q,rfl,hi⟩;refine S_mono _ _ _ _ _ (p k b g w q hi) ?_ (λ_ _ _ _ h=>h) (λ_ _ _ h=>h) (λ_ _ _ _ h=>h);intro G w' _ h;obtain⟨f,r,t⟩:=h;refine⟨⟨k+1,r,f,t⟩,?_⟩;show N - (Go.RowKit.intOf (G s)).toNat<N - _;rw [f];show N - ((k:Int)+1).toNat<N - ((k:Int)).toNat;omega
theorem cnt2(p:T.ok P=true)(m:Nat)(keep:List Nat)(d e s:Nat)(N:Nat)(I:Nat->Value->Value->World->Prop){body:Code}{Q:KS}{F:Nat->Value}{w:World}
  (f:okB m keep [d,e,s] body=true)(q:F s=.int .i64 0)(h0:I 0 (F d) (F e) w)
  (r:∀(k:Nat) b c g w,k<=N->I k b c w->S P T n body { Q with nrm:=λl w'=>l s=.int .i64 ((k:Int)+1)/\k<N/\I (k+1) (l d) (l e) w' } (hdF m keep [(d,b),(e,c),(s,.int .i64 k)] g F) w):DeepS P T n (.loop body) Q F w:=by
 refine loop3 p m keep d e s (λb c v w=>∃k:Nat,k<=N/\v=.int .i64 k/\I k b c w) (λ_ _ v _=>N - (Go.RowKit.intOf v).toNat) f ⟨0,by omega,q,h0⟩ ?_;rintro b c v g w ⟨k,t,rfl,hi⟩;refine S_mono _ _ _ _ _ (r k b c g w t hi) ?_ (λ_ _ _ _ h=>h) (λ_ _ _ h=>h) (λ_ _ _ _ h=>h);intro G w' _ h;obtain⟨o,x,y⟩:=h;refine⟨⟨k+1,x,o,y⟩,?_⟩;show N - (Go.RowKit.intOf (G s)).toNat<N - _;rw [o];show N - ((k:Int)+1).toNat<N - ((k:Int)).toNat;omega
end
theorem take_add{α:Type}{l:List α}(h:k<l.length):l.take (k+1)=l.take k++[l[k]]:=QO h
section
variable {P:Program} {w:World}
theorem tld{t:TypeId}[f:One P t]{x:World}{b o:Nat}{cs:List Value}{e:TypeId}[B:Bk x b cs e][L:Le x w]{k:Value->Prop}{v:Value}(c:nth cs o=some v)(hd:¬D b)(d:k v):TakeS P (Instr.loadAt t (.pointer (some ⟨b,o,none⟩))) D k w:=
 tload1 (by have:=(Bk.at (w:=w) B).cell o (v:=v) (by rw [<-nth_eq];exact c);rwa [JO] at this) hd d
theorem tldG{t:Nat}[g:Agg P t n]{x:World}{b o:Nat}{cs:List Value}{e:TypeId}[B:Bk x b cs e][L:Le x w]{k:Value->Prop}{ds:List Value}(c:(cs.drop o).take n=ds)(d:ds.length=n)(hd:¬D b)(f:k (.agg ds.toArray)):TakeS P (Instr.loadAt t (.pointer (some ⟨b,o,none⟩))) D k w:=
 tloadA (by have:=(Bk.at (w:=w) B).sub o n;rw [c,JO] at this;exact this) d hd f
theorem Sp.tt{f:FuncId}{args:Array Value}{p:Prop}(h:Sp P f args w λv w'=>Tells p v/\Stp w w')(c:p):Sp P f args w λv w'=>v=.bool true/\Stp w w':=
 h.mono λv w' d=>by
  rcases d with ⟨⟨b,_⟩|⟨_,b⟩,e⟩
  ·exact⟨b,e⟩
  ·exact absurd c b
end
section
variable {α:Type} [Enc α]
theorem Own.shape{e:TypeId}{w:World}{v:Value}{l:List α}(h:Own B e w v l):∃a c,v=.slice a l.length c:=h.sl.shape
theorem Own.frc{e o:TypeId}{w:World}{v:Value}{l:List α}{b:Nat}{cs:List Value}(h:Own B e w v l)(f:Fr (λi=>i=b) w w')(k:Bk w b cs o)(c:e≠o:=by decide):Own B e w' v l:=by
 rcases h with h|h
 ·exact .inl h
 ·refine .inr ⟨h.1,?_⟩;rcases h.2 with q|⟨g,cap,d,rfl,r,p,rest⟩
  ·exact .inl q
  ·refine .inr ⟨g,cap,d,rfl,r,f.blk p ?_,rest⟩;rintro rfl;have:=k.h;rw [p] at this;cases this;exact c rfl
theorem Bk.fro{e c:TypeId}{w:World}{v:Value}{l:List α}{b:Nat}{cs:List Value}(k:Bk w b cs c)(h:Own B e w v l)(f:Fr (ownD B v) w w')(d:e≠c:=by decide):Bk w' b cs c:=by
 refine k.fr f λhd=>?_;rcases h with ⟨_,a,rfl⟩|h
 ·exact hd.2.2 a rfl
 ·rcases h.2 with ⟨rfl,_⟩|⟨g,cap,p,rfl,_,q,_⟩
  ·cases hd.2.1
  ·have o:=hd.2.1;simp only [Value.blk] at o;cases o;have:=k.h;rw [q] at this;cases this;exact d rfl
theorem Own.fro{o:Type}[Enc o]{B':Nat}{e p:TypeId}{w:World}{v q:Value}{l:List α}{l':List o}(h:Own B e w v l)(k:Own B' p w q l')(f:Fr (ownD B' q) w w')(c:e≠p:=by decide):Own B e w' v l:=by
 rcases h with h|h
 ·exact .inl h
 ·refine .inr ⟨h.1,?_⟩;rcases h.2 with y|⟨g,cap,d,rfl,z,r,rest⟩
  ·exact .inl y
  ·refine .inr ⟨g,cap,d,rfl,z,f.blk r λhd=>?_,rest⟩;rcases k with ⟨_,a,rfl⟩|k
   ·exact hd.2.2 a rfl
   ·rcases k.2 with ⟨rfl,_⟩|⟨A,s,t,rfl,_,b,_⟩
    ·cases hd.2.1
    ·have x:=hd.2.1;simp only [Value.blk] at x;cases x;rw [r] at b;cases b;exact c rfl
end
theorem zQv{q:Nat->Bool}(h:(selN q n)[i]? = some k):k<n/\q k=true/\i=(selN q k).length:=by
 have e:=Jy h;obtain⟨c,d⟩:=zHn.1 e;refine⟨c,d,?_⟩;have f:=zBX c d;have b:(selN q n).Nodup:=(Xj).filter _;exact(List.getElem?_inj (Qy.1 h).1 b).1 (by rw [h,f])
theorem zQw{q:Nat->Bool}(b:j<k)(c:q j=true):(selN q j).length<(selN q k).length:=(Qy.1 (zBX b c)).1
section
variable {P:Program} {k:Value->World->Prop} {pn:List PanicEntry->World->Prop} {w:World}
theorem rarE{x y:Int}(e:x=y)(h:-9223372036854775808<=y/\y<=9223372036854775807)(b:k (.int .i64 y) w):ArS .i64 x k w:=by
 subst e;exact rar h b
class ArrT (P:Program) (t:TypeId) (n:outParam Nat) (e:outParam TypeId):Prop where
 h:P.underlying t=some (.array n e)
theorem zLd{t e:TypeId}{z:Value}{sz c:Nat}(d:ArrT P t N e)(f:Elem P e z sz c){b o:Nat}{i:Int}(h0:0<=i)(g:i<N)(w:World):
  (Instr.indexAt t (.pointer (some ⟨b,o,none⟩)) (.int .i64 i)).run P w=.ok (.pointer (some ⟨b,o+i.toNat*sz,none⟩)) w:=by
 obtain⟨j,l,_,p,_⟩:=info_parts f.h;simp [Instr.indexAt,asIntOf,underlying,d.h,sizeOf,typeInfo,l,p,h0,g,zAs,Instr.sureAddr]
theorem rixA{t e:TypeId}{z:Value}{sz c:Nat}[d:ArrT P t N e][f:Elem P e z sz c]{b o:Nat}(h:i<N)(g:k (.pointer (some ⟨b,o+i*sz,none⟩)) w):
  SemV P (Instr.indexAt t (.pointer (some ⟨b,o,none⟩)) (.int .i64 i)) k pn w:=SemV.of (zLd d f (by omega) (by omega) w) g
theorem rstK{t:TypeId}[o:Size P t n]{x:World}{b off:Nat}{cs:List Value}{e:TypeId}[B:Bk x b cs e][L:Le x w]{v:Value}{vs:List Value}(d:v.cells.toList=vs)(g:vs.length=n)(c:off+n<=cs.length)(h:∀u∈vs,u.oneCell'=true)
  (l:∀w',Bk w' b (splice cs off vs) e->Fr (λi=>i=b) w w'->w'.heap.size=w.heap.size->k undef w'):SemU P (Instr.storeAt t (.pointer (some ⟨b,off,none⟩)) v) k pn w:=
 rst (Bk.up B) d g (by simpa using c) h λw' a f s=>l w' ⟨by simpa using a⟩ f s
theorem rldK{t:TypeId}[f:One P t]{x:World}{b o:Nat}{cs:List Value}{e:TypeId}[B:Bk x b cs e][L:Le x w]{v:Value}(c:cs[o]? = some v)(d:k v w):SemV P (Instr.loadAt t (.pointer (some ⟨b,o,none⟩))) k pn w:=
 rld (B:=B) (L:=L) (by rw [nth_eq];exact c) d
theorem splice1(cs:List Value)(i:Nat)(v:Value)(h:i<cs.length):splice cs i [v]=cs.set i v:=by
 unfold splice;rw [Vn,if_pos h];simp
theorem Nx.lt{w:World}{b:Nat}(n:Nx w w' b):b<w'.heap.size:=by have:=n.b;have:=n.s;omega
end
section
variable {P:Program} {T:Tab} {n:Nat}
def KS.at (Q:KS) (i0:Nat) (J:(Nat->Value)->World->Prop):KS:={ Q with ext:=λi F w=>match Nat.beq i i0 with|true=>J F w|false=>Q.ext i F w }
theorem loopLJ(t:T.ok P=true)(i0:Nat)(m:Nat)(keep slots:List Nat)(I J:List Value->World->Prop)(o:List Value->World->Nat){body:Code}{Q:KS}{F:Nat->Value}{w:World}
  (d:okB m keep slots body=true)(h0:I (mapF F slots) w)
  (v:∀vs g w,vs.length=slots.length->I vs w->S P T n body
   { Q.at i0 (λb w'=>J (mapF b slots) w') with nrm:=λb w'=>I (mapF b slots) w'/\o (mapF b slots) w'<o vs w } (hdF m keep (zipS slots vs) g F) w)
  (x:∀vs g w,vs.length=slots.length->J vs w->Q.ext i0 (hdF m keep (zipS slots vs) g F) w):DeepS P T n (.loop body) Q F w:=by
 have h:=loopL t m keep slots I o (Q:=Q.at i0 (λb w'=>J (mapF b slots) w')) d h0 v;rw [zAE] at h ⊢;intro md p a y;refine Jb ?_ (h md p a y);intro e a' w' q;cases e <;> simp only [KS.lift,KS.at] at q ⊢ <;> try exact q
 rename_i i;obtain⟨b,z,s,r⟩:=q;refine⟨b,z,s,?_⟩;split at r
 ·rename_i A;obtain rfl:=QD A;have f:∀l,(mapF b l).length=l.length:=by intro l;induction l <;> simp_all [mapF]
  have:=x (mapF b slots) b w' (f slots) r
  rwa [zEq d (c:=body) s] at this
 ·exact r
theorem cntJ(f:T.ok P=true)(i0:Nat)(m:Nat)(keep:List Nat)(s:Nat)(N:Nat)(I J:Nat->World->Prop){body:Code}{Q:KS}{F:Nat->Value}{w:World}
  (c:okB m keep [s] body=true)(l:F s=.int .i64 0)(h0:I 0 w)
  (o:∀(k:Nat) g w,k<=N->I k w->S P T n body { Q.at i0 (λd w'=>∃k:Nat,d s=.int .i64 k/\J k w') with nrm:=λd w'=>d s=.int .i64 ((k:Int)+1)/\k<N/\I (k+1) w' } (hdF m keep [(s,.int .i64 k)] g F) w)
  (p:∀(k:Nat) g w,J k w->Q.ext i0 (hdF m keep [(s,.int .i64 k)] g F) w):DeepS P T n (.loop body) Q F w:=by
 refine loopLJ f i0 m keep [s] (λvs w=>∃k:Nat,k<=N/\vs=[.int .i64 k]/\I k w) (λvs w=>∃k:Nat,vs=[.int .i64 k]/\J k w) (λvs _=>match vs with|[v]=>N - (Go.RowKit.intOf v).toNat|_=>0) c ⟨0,by omega,by simp [mapF,l],h0⟩ ?_ ?_
 ·rintro vs g w _ ⟨k,q,rfl,hi⟩;refine S_mono _ _ _ _ _ (o k g w q hi) ?_ ?_ (λ_ _ _ h=>h) (λ_ _ _ _ h=>h)
  ·intro G w' _ h;obtain⟨b,e,r⟩:=h;refine⟨⟨k+1,e,by simp [mapF,b],r⟩,?_⟩;show N - (Go.RowKit.intOf (G s)).toNat<N - _;rw [b];show N - ((k:Int)+1).toNat<N - ((k:Int)).toNat;omega
  ·intro i G w' _ h;simp only [KS.at] at h ⊢;split at h
   ·obtain⟨t,b,e⟩:=h;exact⟨t,by simp [mapF,b],e⟩
   ·exact h
 ·rintro vs g w _ ⟨k,rfl,x⟩;exact p k g w x
end
section
variable {α:Type}
theorem zCX{l:List α}:((l.drop (Option.getD none 0)).take ((some j).getD l.length - Option.getD none 0))=l.take j:=by simp
theorem zBB{l:List α}:((l.drop ((some j).getD 0)).take (Option.getD none l.length - (some j).getD 0))=l.drop j:=by
 simp only [QP,JQ];exact Qj (by simp)
end
section
variable {α:Type} [Enc α] {P:Program} {k:Value->World->Prop} {pn:List PanicEntry->World->Prop} {w u:World}
theorem rslB{t e:TypeId}{z:Value}{b:Nat}[g:SlT P t e][o:Elem P e z (Enc.sz α) b]{c:Nat}{l:List α}(lo hi:Option Nat)(h:SlF u (.slice a n c) l)(f:lo.getD 0<=hi.getD n)(p:hi.getD n<=n)
  (q:∀a' d,SlF u (.slice a' (hi.getD n - lo.getD 0) d) ((l.drop (lo.getD 0)).take (hi.getD n - lo.getD 0))->k (.slice a' (hi.getD n - lo.getD 0) d) w):SemV P (Instr.sliceAt t (.slice a n c) (loV lo) (loV hi) none) k pn w:=by
 have r:n<=c:=by obtain⟨a',d,s,v,_⟩:=h;cases s;exact v
 exact SemV.of (zA0 g o lo hi f (by omega) w) (q _ _ (h.part _ _ f p))
theorem tslB{t e:TypeId}{z:Value}{b:Nat}[g:SlT P t e][o:Elem P e z (Enc.sz α) b]{k:Value->Prop}{c:Nat}{l:List α}(lo hi:Option Nat)(h:SlF u (.slice a n c) l)(f:lo.getD 0<=hi.getD n)(p:hi.getD n<=n)
  (q:∀a' d,SlF u (.slice a' (hi.getD n - lo.getD 0) d) ((l.drop (lo.getD 0)).take (hi.getD n - lo.getD 0))->k (.slice a' (hi.getD n - lo.getD 0) d)):TakeS P (Instr.sliceAt t (.slice a n c) (loV lo) (loV hi) none) D k w:=by
 have r:n<=c:=by obtain⟨a',d,s,v,_⟩:=h;cases s;exact v
 rw [zAe];exact⟨_,λw' _=>zA0 g o lo hi f (by omega) w',q _ _ (h.part _ _ f p)⟩
end
end Go.W
set_option linter.unusedSimpArgs false
namespace Go.W
open Go
variable {B N i j k m n:Nat} {D:Nat -> Prop} {P:Program} {a a':Option Addr} {u u' w':World}
inductive OT where
 |nil:OT
 |one:Nat->OT->OT
 |two:Nat->OT->Nat->OT->OT
 |lone:Nat->OT->OT
 |duo:Nat->OT->Nat->OT->OT
 |tri:Nat->OT->Nat->OT->Nat->OT->OT
def OT.deep:OT->Nat->Bool
 |.nil,m=>Nat.beq m 0
 |.one _ t,m=>match m with|0=>false|m+1=>t.deep m
 |.lone _ t,m=>match m with|0=>false|m+1=>t.deep m
 |.two _ t _ t',m=>match m with|0=>false|m+1=>t.deep m && t'.deep m
 |.duo _ t _ t',m=>match m with|0=>false|m+1=>t.deep m && t'.deep m
 |.tri _ t _ t' _ t'',m=>match m with|0=>false|m+1=>t.deep m && t'.deep m && t''.deep m
def drawStepG (tk : Oper -> Bool) (P : Program) (T : Tab) (n : Nat) (D : Nat -> Prop) (all : List Oper) (i : Nat) (ih : (Nat -> Value) -> ((Nat -> Value) -> World -> Prop) -> (List PanicEntry -> World -> Prop) -> World -> Prop)
    (F : Nat -> Value) (k : (Nat -> Value) -> World -> Prop) (pn : List PanicEntry -> World -> Prop) (w : World) : Prop :=
  match nth all i with
    | none => False
    | some o => match o.guard with
      | none => bif tk o then takeS P T D o F (λv => putS n F o.dst v λF' => ih F' k pn w) w
          else opS P T o F (λv w' => Fr D w w' /\ putS n F o.dst v λF' => ih F' k pn w') pn w
      | some (j, want) => match nth all j with
        | some g => match g.dst with
          | some d => match F d with
            | .bool b => match Nat.blt d n with
              | true => match want with
                | true => condS b
                    (bif tk o then takeS P T D o (upd F d (.bool true)) (λv => putS n (upd F d (.bool true)) o.dst v λF' => ih F' k pn w) w
                      else opS P T o (upd F d (.bool true)) (λv w' => Fr D w w' /\ putS n (upd F d (.bool true)) o.dst v λF' => ih F' k pn w') pn w)
                    (putS n (upd F d (.bool false)) o.dst undef λF' => ih F' k pn w)
                | false => condS b
                    (putS n (upd F d (.bool true)) o.dst undef λF' => ih F' k pn w)
                    (bif tk o then takeS P T D o (upd F d (.bool false)) (λv => putS n (upd F d (.bool false)) o.dst v λF' => ih F' k pn w) w
                      else opS P T o (upd F d (.bool false)) (λv w' => Fr D w w' /\ putS n (upd F d (.bool false)) o.dst v λF' => ih F' k pn w') pn w)
              | false => False
            | .tuple _ => putS n F o.dst undef λF' => ih F' k pn w
            | _ => False
          | none => False
        | none => False
def drawT (P:Program) (T:Tab) (n:Nat) (D:Nat->Prop) (all:List Oper) (t:OT):(Nat->Value)->((Nat->Value)->World->Prop)->(List PanicEntry->World->Prop)->World->Prop:=
 OT.rec (motive:=λ_=>(Nat->Value)->((Nat->Value)->World->Prop)->(List PanicEntry->World->Prop)->World->Prop) (λF k _ w=>k F w) (λi _ ih=>drawStep P T n D all i ih)
  (λi _ j _ ih jh F k pn w=>drawStep P T n D all i ih F k pn w/\drawStep P T n D all j jh F k pn w) (λi _ ih=>drawStepG (λ_=>false) P T n D all i ih)
  (λi _ j _ ih jh F k pn w=>drawStepG (λ_=>false) P T n D all i ih F k pn w/\drawStepG (λ_=>false) P T n D all j jh F k pn w)
  (λi _ j _ q _ ih jh qh F k pn w=>drawStepG (λ_=>false) P T n D all i ih F k pn w/\drawStepG (λ_=>false) P T n D all j jh F k pn w/\drawStepG (λ_=>false) P T n D all q qh F k pn w) t
def plainB (ops:Array Oper) (i:Nat):Bool:=match ops[i]? with|none=>false|some o=>!takeK o
def ordT (ops:Array Oper):OT->Array Bool->Bool
 |.nil,listed=>(Region.ready .any ops listed).isEmpty
 |.one i t,listed=>match ops[i]? with
  |none=>false
  |some o=>(bif takeK o then Region.free .any ops listed i && (Region.ready .any ops listed).contains i else Region.ready .any ops listed==[i]) && ordT ops t (listed.setIfInBounds i true)
 |.lone i t,listed=>(Region.ready .any ops listed==[i]) && ordT ops t (listed.setIfInBounds i true)
 |.duo i t j t',listed=>(Region.ready .any ops listed==[i,j]) && ordT ops t (listed.setIfInBounds i true) && ordT ops t' (listed.setIfInBounds j true)
 |.tri i t j t' q t'',listed=>(Region.ready .any ops listed==[i,j,q]) && ordT ops t (listed.setIfInBounds i true) && ordT ops t' (listed.setIfInBounds j true) && ordT ops t'' (listed.setIfInBounds q true)
 |.two i t j t',listed=>(Region.ready .any ops listed==[i,j]) && plainB ops i && plainB ops j && !Nat.beq i j && ordT ops t (listed.setIfInBounds i true) && ordT ops t' (listed.setIfInBounds j true)
def ordTOK (ops:Array Oper) (t:OT):Bool:=Region.noSelect ops && noDefs ops && t.deep ops.size && ordT ops t (Array.replicate ops.size false)
section
variable {P:Program} {T:Tab} {n:Nat}
theorem zH7{A : Oper -> Bool}{ops : Array Oper}{t : (Nat -> Value) -> ((Nat -> Value) -> World -> Prop) -> (List PanicEntry -> World -> Prop) -> World -> Prop}{F : Nat -> Value}{k : (Nat -> Value) -> World -> Prop}{l : List PanicEntry -> World -> Prop}{w : World}{a : Act}(x : Rel n F a)
    (h : drawStepG A P T n D ops.toList i t F k l w) : ∃ o, ops[i]? = some o /\
      ((Region.wanted o (yielded ops a.tmps) = true /\ (bif A o then takeS P T D o F (λv => putS n F o.dst v λp => t p k l w) w else opS P T o F (λv w' => Fr D w w' /\ putS n F o.dst v λp => t p k l w') l w)) \/
       (Region.wanted o (yielded ops a.tmps) = false /\ putS n F o.dst undef λp => t p k l w)) := by
  unfold drawStepG at h;rw [nth_eq] at h;split at h
  · exact h.elim
  rename_i o z;have hi : ops[i]? = some o := by simpa using z
  refine ⟨o, hi, ?_⟩;split at h
  · rename_i q
    exact .inl ⟨by simp [Region.wanted, q], h⟩
  rename_i j r q;rw [nth_eq] at h;split at h
  case h_2 => exact h.elim
  case h_1 g hgj =>
  split at h
  case h_2 => exact h.elim
  case h_1 d hd =>
  have f : d < n -> yielded ops a.tmps j = match F d with | .bool b => some b | _ => none := by
    intro hdn;have c : ops[j]? = some g := by simpa using hgj
    have := x.get d (Nat.ne_of_lt (QJ hdn x.le));have C := x.size;simp only [yielded, c, VN, hd]
    have e : a.tmps[d]? = some (F d) := by
      rw [<- this, Jr];rw [QT (by rw [C]; exact hdn)]; rfl
    rw [e];cases F d <;> simp
  split at h
  · rename_i b y
    have E : upd F d (.bool b) = F := by rw [<- y]; exact zEO F d
    split at h
    case h_2 => exact h.elim
    case h_1 hdn =>
    have s : d < n := by simpa [Xe] using hdn
    have f := f s;simp only [y] at f
    cases r <;> cases b <;> simp only [condS, E] at h <;> first
      | exact .inl ⟨by simp [Region.wanted, q, f], h⟩
      | exact .inr ⟨by simp [Region.wanted, q, f], h⟩
  · rename_i vs y
    have f : yielded ops a.tmps j = none := by
      by_cases hdn : d < n
      · rw [f hdn]; simp only [y]
      · have c : ops[j]? = some g := by simpa using hgj
        have e : a.tmps[d]? = none := Jn (by rw [x.size]; exact Yi hdn);simp only [yielded, c, VN, hd, e]
    exact .inr ⟨by simp [Region.wanted, q, f], h⟩
  · exact h.elim
theorem zIS{e:Nat->Bool}{ops:Array Oper}(c:∀t,wrL ops.toList t=true->e t=true){o:Oper}(hi:ops[i]? = some o)(t:Nat)(f:isD o.dst t=true):e t=true:=by
 refine c t ?_;have b:o∈ops.toList:=Jy (i:=i) (by simpa using hi);clear hi;generalize ops.toList=l at b
 induction l with
 |nil=>cases b
 |cons x r d =>
  simp only [wrL,VV];rcases Ql.1 b with rfl|b
  ·exact .inl (by unfold wrO;rw [f];rfl)
  ·exact .inr (d b)
theorem zI0(hT : T.ok P = true){r : Option Nat}(D : Nat -> Prop)(ops : Array Oper)(H : Nat -> Value)(E : Nat -> Bool)(Q : ∀ t, wrL ops.toList t = true -> E t = true)(k : (Nat -> Value) -> World -> Prop)(x : List PanicEntry -> World -> Prop)(hs : Region.noSelect ops = true)(S : noDefs ops = true) :
    ∀ (t : OT) (m : Nat) (b : Array Bool) (F : Nat -> Value) (w : World) (a : Act), t.deep m = true -> Rel n F a -> agree E H F -> ordT ops t b = true -> drawT P T n D ops.toList t F k x w ->
      AnyH P r .any ops (LQ n H E k (λ_ => x)) (Fr D w) m b a w := by
  have g : ∀ (tk : Oper -> Bool) (i : Nat) (t : OT) (m : Nat) (b : Array Bool) (F : Nat -> Value) (w : World) (a : Act), (∀ o, ops[i]? = some o -> tk o = false) -> Rel n F a -> agree E H F ->
      (∀ (F : Nat -> Value) (w : World) (a : Act), Rel n F a -> agree E H F -> drawT P T n D ops.toList t F k x w -> AnyH P r .any ops (LQ n H E k (λ_ => x)) (Fr D w) m (b.setIfInBounds i true) a w) ->
      drawStepG tk P T n D ops.toList i (drawT P T n D ops.toList t) F k x w ->
      wpOpIn (fw r) 0 P ops (LQ n H E k (λ_ => x)) i (λa' w' => Fr D w w' /\ AnyH P r .any ops (LQ n H E k (λ_ => x)) (Fr D w) m (b.setIfInBounds i true) a' w') a w := by
    intro tk i t m b F w a U f h0 G h;obtain ⟨o, hi, A⟩ := zH7 f h;have V : tk o = false := U o hi
    have step : ∀ {v : Value} {w' : World}, putS n F o.dst v (λK => drawT P T n D ops.toList t K k x w') ->
        AnyH P r .any ops (LQ n H E k (λ_ => x)) (Fr D w') m (b.setIfInBounds i true) (a.put o.dst v) w' := by
      intro v w' U;obtain ⟨K, J, L, W⟩ := f.put U
      exact G K w' _ J (λt I => by
        rw [L t (by cases hd : isD o.dst t; rfl; have := zIS Q hi t hd; rw [I] at this; cases this), h0 t I]) W
    unfold wpOpIn;simp only [hi];rcases A with ⟨R, A⟩ | ⟨R, A⟩
    · simp only [V, cond_false] at A
      simp only [R, if_true];refine opS_wp hT A f (λv w' hv => ?_) (λc w' hc => ⟨F, f, h0, hc⟩);exact ⟨hv.1, zDH (λu hu => hv.1.trans hu) _ _ _ _ (step hv.2)⟩
    · simp only [R]
      exact ⟨λ_ _ => trivial, Fr.refl D w, step A⟩
  intro t
  induction t with
  | nil =>
    intro m b F w a p f h0 s h;obtain rfl := QD p;exact ⟨by simpa [ordT] using s, F, f, h0, h⟩
  | one i t G =>
    intro m b F w a p f h0 s h
    cases m with
    | zero => cases p
    | succ m =>
    have p : t.deep m = true := p;have h : drawStepG takeK P T n D ops.toList i (drawT P T n D ops.toList t) F k x w := h;obtain ⟨o, hi, A⟩ := zH7 f h;simp only [ordT, hi, Qz] at s
    cases V : takeK o with
    | false =>
      simp only [V, cond_false] at s;have z : Region.ready .any ops b = [i] := by simpa using s.1
      refine zBM z (by simp) (λj hj => ?_);obtain rfl : j = i := by simpa using hj
      exact g takeK j t m b F w a (λo' C => by rw [hi] at C; cases C; exact V) f h0 (λF w a f h0 h => G m _ F w a p f h0 s.2 h) h
    | true =>
      simp only [V, cond_true] at s A;rw [Qz] at s
      have step : ∀ {v : Value}, putS n F o.dst v (λK => drawT P T n D ops.toList t K k x w) ->
          AnyH P r .any ops (LQ n H E k (λ_ => x)) (Fr D w) m (b.setIfInBounds i true) (a.put o.dst v) w := by
        intro v U;obtain ⟨K, J, L, W⟩ := f.put U
        exact G m _ K w _ p J (λt I => by
          rw [L t (by cases hd : isD o.dst t; rfl; have := zIS Q hi t hd; rw [I] at this; cases this), h0 t I]) s.2 W
      have M : ∀ c (a : Act) (w : World) (v : Value), LQ n H E k (λ_ => x) (.panic c) (a.put o.dst v) w -> LQ n H E k (λ_ => x) (.panic c) a w := by
        intro c a w v y;simp only [LQ] at y ⊢;obtain ⟨K, J, L, W⟩ := y;have a0 : (a.put o.dst v).tmps.size = a.tmps.size := by cases hd : o.dst <;> simp [Act.put]
        have a1 : (a.put o.dst v).defers = a.defers := by cases hd : o.dst <;> simp [Act.put]
        refine ⟨λt => bif Nat.beq t 4294967296 then K 4294967296 else a.tmps.getD t undef, ⟨by rw [<- a0]; exact J.size, J.le, by rw [<- a1]; exact J.defers, λt I => ?_⟩, λt I => ?_, W⟩
        · cases y : Nat.beq t 4294967296 with
          | false => simp only [y, cond_false]
          | true => exact absurd (QD y) I
        · cases y : Nat.beq t 4294967296 with
          | true => simp only [y, cond_true]; rw [<- QD y]; exact L t I
          | false =>
            simp only [y, cond_false];rw [<- L t I, <- J.get t (λe => by subst e; simp at y)]
            cases hd : o.dst with
            | none => rfl
            | some d =>
              have a2 : d ≠ t := by
                rintro rfl;have := zIS Q hi d (by simp [isD, hd]);rw [I] at this; cases this
              simp [Act.put, Jr, V1, a2]
      rcases A with ⟨R, A⟩ | ⟨R, A⟩
      · obtain ⟨v, J, L⟩ := zJw hT A
        refine zDm S (i := i) (oi := o) (v := v) hi hs s.1.1 s.1.2 (λc a w => M c a w v) (.inl ⟨R, λw' a3 => ?_⟩) (Fr.refl D w) (step L);rw [f.eval]; exact J w' a3
      · exact zDm S (i := i) (oi := o) (v := undef) hi hs s.1.1 s.1.2 (λc a w => M c a w undef) (.inr ⟨R, rfl⟩) (Fr.refl D w) (step A)
  | two i t j O G X =>
    intro m b F w a p f h0 s h
    cases m with
    | zero => cases p
    | succ m =>
    simp only [OT.deep, Qz] at p;have h : drawStep P T n D ops.toList i (drawT P T n D ops.toList t) F k x w /\ drawStep P T n D ops.toList j (drawT P T n D ops.toList O) F k x w := h;simp only [ordT, Qz] at s;obtain ⟨⟨⟨⟨⟨z, a4⟩, a5⟩, _⟩, oi⟩, Y⟩ := s;have z : Region.ready .any ops b = [i, j] := by simpa using z
    refine zBM z (by simp) (λq y => ?_);simp only [Ql, Xf, or_false] at y;rcases y with rfl | rfl
    · exact g takeK q t m b F w a (λo' C => by simpa [plainB, C] using a4) f h0 (λF w a f h0 h => G m _ F w a p.1 f h0 oi h) h.1
    · exact g takeK q O m b F w a (λo' C => by simpa [plainB, C] using a5) f h0 (λF w a f h0 h => X m _ F w a p.2 f h0 Y h) h.2
  | lone i t G =>
    intro m b F w a p f h0 s h
    cases m with
    | zero => cases p
    | succ m =>
    have p : t.deep m = true := p;have h : drawStepG (λ_ => false) P T n D ops.toList i (drawT P T n D ops.toList t) F k x w := h;simp only [ordT, Qz] at s;have z : Region.ready .any ops b = [i] := by simpa using s.1
    refine zBM z (by simp) (λj hj => ?_);obtain rfl : j = i := by simpa using hj
    exact g (λ_ => false) j t m b F w a (λ_ _ => rfl) f h0 (λF w a f h0 h => G m _ F w a p f h0 s.2 h) h
  | duo i t j O G X =>
    intro m b F w a p f h0 s h
    cases m with
    | zero => cases p
    | succ m =>
    simp only [OT.deep, Qz] at p;have h : drawStepG (λ_ => false) P T n D ops.toList i (drawT P T n D ops.toList t) F k x w /\ drawStepG (λ_ => false) P T n D ops.toList j (drawT P T n D ops.toList O) F k x w := h;simp only [ordT, Qz] at s;obtain ⟨⟨z, oi⟩, Y⟩ := s;have z : Region.ready .any ops b = [i, j] := by simpa using z
    refine zBM z (by simp) (λq y => ?_);simp only [Ql, Xf, or_false] at y;rcases y with rfl | rfl
    · exact g (λ_ => false) q t m b F w a (λ_ _ => rfl) f h0 (λF w a f h0 h => G m _ F w a p.1 f h0 oi h) h.1
    · exact g (λ_ => false) q O m b F w a (λ_ _ => rfl) f h0 (λF w a f h0 h => X m _ F w a p.2 f h0 Y h) h.2
  | tri i t j O l Z G X lh =>
    intro m b F w a p f h0 s h
    cases m with
    | zero => cases p
    | succ m =>
    simp only [OT.deep, Qz] at p;have h : drawStepG (λ_ => false) P T n D ops.toList i (drawT P T n D ops.toList t) F k x w /\ drawStepG (λ_ => false) P T n D ops.toList j (drawT P T n D ops.toList O) F k x w /\ drawStepG (λ_ => false) P T n D ops.toList l (drawT P T n D ops.toList Z) F k x w := h;simp only [ordT, Qz] at s;obtain ⟨⟨⟨z, oi⟩, Y⟩, ol⟩ := s;have z : Region.ready .any ops b = [i, j, l] := by simpa using z
    refine zBM z (by simp) (λq y => ?_);simp only [Ql, Xf, or_false] at y;rcases y with rfl | rfl | rfl
    · exact g (λ_ => false) q t m b F w a (λ_ _ => rfl) f h0 (λF w a f h0 h => G m _ F w a p.1.1 f h0 oi h) h.1
    · exact g (λ_ => false) q O m b F w a (λ_ _ => rfl) f h0 (λF w a f h0 h => X m _ F w a p.1.2 f h0 Y h) h.2.1
    · exact g (λ_ => false) q Z m b F w a (λ_ _ => rfl) f h0 (λF w a f h0 h => lh m _ F w a p.2 f h0 ol h) h.2.2
theorem drawRT(l:T.ok P=true)(o:P.follows .mixedOrders=true)(D:Nat->Prop)(t:OT){ops:Array Oper}{Q:KS}{F:Nat->Value}{w:World}(d:ordTOK ops t=true)
  (h:∀w',Stp w w'->w'.heap=w.heap->drawT P T n D ops.toList t F Q.nrm (λc w=>∀b,agree (wr (.region i ops true)) F b->Q.pan b c w) w'):DeepS P T n (.region i ops true) Q F w:=by
 rw [zAE];intro md p a q;simp only [ordTOK,Qz] at d;have hd:=zI0 l (r:=md) D ops F (wr (.region i ops true)) (λt s=>s) Q.nrm (λc w=>∀b,agree (wr (.region i ops true)) F b->Q.pan b c w) d.1.1.1 d.1.1.2 t ops.size (Array.replicate ops.size false) F _ a d.1.2 q (λ_ _=>rfl) d.2 (h _ ⟨Ext.drew w⟩ rfl);refine Jb ?_ (wpIn_region_any o (zBJ _ _ _ _ hd));intro e a' w' f;cases e <;> simp only [LQ] at f <;> simp only [KS.lift]
 ·exact f
 ·obtain⟨b,v,g,x⟩:=f;exact⟨b,v,g,x b g⟩
end
open Enc (enc)
section
variable {P:Program} {k:Value->World->Prop} {pn:List PanicEntry->World->Prop} {w:World}
theorem rrem{kd:IntKind}{x y:Int}(h0:0<=x)(c:0<y)(b:k (.int kd (x % y)) w):RemS kd x y k w:=by
 rw [zC0];exact⟨by omega,by rw [Xl h0];exact b⟩
class IntT (P:Program) (t:TypeId):Prop where
 h:∃kd,P.underlying t=some (.int kd)
def fldB (P:Program) (t:TypeId) (l:List (TypeId×Nat)):Bool:=
 match P.underlying t with
 | some (.struct fs) => decide (fs.toList.map (λf => (f.type, f.offset)) = l) && fs.toList.all (λf => f.name != "_") && !P.stoodInHeld t
 |_=>false
def eqL (d:Nat) (xs ys:Array Value):List (TypeId×Nat)->Sem Bool
 |[]=>pure true
 |(t,o)::r=>do
  let a <-part t xs o
  let b <-part t ys o
  let e <-Op.equalIn d t a b
  if (!e)=true then pure false else eqL d xs ys r
theorem zHx(d : Nat)(xs b : Array Value) : ∀ (fs : List Field), fs.all (λf => f.name != "_") = true -> Op.eqFields d xs b fs = eqL d xs b (fs.map λf => (f.type, f.offset))
 |[],_=>rfl
 |f::fs,h=>by
  simp only [Ye,Qz,bne_iff_ne,ne_eq] at h;simp only [Op.eqFields,QS,eqL];rw [if_pos h.1,zHx d xs b fs (by simpa using h.2)]
theorem zEF{t:TypeId}{l:List (TypeId×Nat)}(h:fldB P t l=true)(d:Nat)(xs c:Array Value)(w:World):(Op.equalIn (d+1) t (.agg xs) (.agg c)).run P w=(eqL d xs c l).run P w:=by
 unfold fldB at h;split at h
 ·rename_i fs b;simp only [Qz,decide_eq_true_eq,VJ] at h;obtain⟨⟨f,g⟩,o⟩:=h;have e:P.fieldsOf t=fs:=by unfold Program.fieldsOf;rw [b]
  rw [run_equalIn_struct w d t xs c (by rw [e];exact b) o,e,zHx d xs c fs.toList g,f]
 ·cases h
theorem zIi(d:Nat)(xs b:Array Value)(w:World):(eqL d xs b []).run P w=.ok true w:=rfl
theorem zHc{t:TypeId}(b:One P t){cs:Array Value}{o:Nat}{v:Value}(h:cs[o]? = some v)(w:World):(part t cs o).run P w=.ok v w:=by
 unfold part;simp only [Qo,zE2 b.h,Qh,Jt,if_false,h,Jd]
theorem zB9{t:TypeId}[g:One P t][hi:IntT P t]{d o:Nat}{xs e:Array Value}{kd:IntKind}{a b:Int}{r:List (TypeId×Nat)}{c:Bool}{w:World}(l:xs[o]? = some (.int kd a))(p:e[o]? = some (.int kd b))(q:(eqL (d+1) xs e r).run P w=.ok c w):
  (eqL (d+1) xs e ((t,o)::r)).run P w=.ok ((a==b) && c) w:=by
 obtain⟨s,f⟩:=hi.h;unfold eqL;simp only [Qo,zHc g l,zHc g p,Qh,run_equalIn_int w d t kd s a b f]
 cases h:(a==b) with
 |true=>simpa using q
 |false=>simp
class EqT (P:Program) (t:TypeId) (α:Type) [Enc α]:Prop where
 guard:P.eqGuardType P.depth t=false
 eq:∀(d:Nat) (x y:α) (w:World),∃b:Bool,(Op.equalIn (d+8) t (agg x) (agg y)).run P w=.ok b w/\(b=true↔x=y)
variable {α:Type} [Enc α]
theorem zQq{t:TypeId}(d:EqT P t α){X Y:Operand}(x y:α):∃b:Bool,(b=true↔x=y)/\∀w,(do eqGuard .eql t X Y (agg x) (agg y);binOp .eql t (agg x) (agg y):Sem Value).run P w=.ok (.bool b) w:=by
 classical
 refine⟨decide (x=y),by simp,λw=>?_⟩;obtain⟨b,c,f⟩:=d.eq 9992 x y w
 have:b=decide (x=y):=by
  by_cases e:x=y
  ·rw [f.2 e];simp [e]
  ·cases b with
   |true=>exact absurd (f.1 rfl) e
   |false=>simp [e]
 subst this;rw [Qo,run_eqGuard_agg w .eql t X Y _ _ d.guard,Qh];show (binOp .eql t (.agg _) (.agg _)).run P w=_;rw [run_eql_struct w t];have c:(Op.equalIn 10000 t (.agg (enc x).toArray) (.agg (enc y).toArray)).run P w=.ok _ w:=c;rw [c];rfl
theorem zQr{t:TypeId}(d:EqT P t α){X Y:Operand}(x y:α):∃b:Bool,(b=true↔x≠y)/\∀w,(do eqGuard .neq t X Y (agg x) (agg y);binOp .neq t (agg x) (agg y):Sem Value).run P w=.ok (.bool b) w:=by
 classical
 refine⟨!decide (x=y),by simp,λw=>?_⟩;obtain⟨b,c,f⟩:=d.eq 9992 x y w
 have:b=decide (x=y):=by
  by_cases e:x=y
  ·rw [f.2 e];simp [e]
  ·cases b with
   |true=>exact absurd (f.1 rfl) e
   |false=>simp [e]
 subst this;rw [Qo,run_eqGuard_agg w .neq t X Y _ _ d.guard,Qh];show (binOp .neq t (.agg _) (.agg _)).run P w=_;rw [run_neq_struct w t];have c:(Op.equalIn 10000 t (.agg (enc x).toArray) (.agg (enc y).toArray)).run P w=.ok _ w:=c;rw [c];rfl
theorem tgeq{t:TypeId}(α:Type)[Enc α][d:EqT P t α]{X Y:Operand}{k:Value->Prop}(x y:α)(f:x=y->k (.bool true))(g:x≠y->k (.bool false)):TakeS P (do eqGuard .eql t X Y (agg x) (agg y);binOp .eql t (agg x) (agg y)) D k w:=by
 obtain⟨b,c,h⟩:=zQq d (X:=X) (Y:=Y) x y;rw [zAe];refine⟨_,λw' _=>h w',?_⟩
 cases b with
 |true=>exact f (c.1 rfl)
 |false=>exact g λe=>by have:=c.2 e;cases this
theorem tgne{t:TypeId}(α:Type)[Enc α][d:EqT P t α]{X Y:Operand}{k:Value->Prop}(x y:α)(f:x≠y->k (.bool true))(g:x=y->k (.bool false)):TakeS P (do eqGuard .neq t X Y (agg x) (agg y);binOp .neq t (agg x) (agg y)) D k w:=by
 obtain⟨b,c,h⟩:=zQr d (X:=X) (Y:=Y) x y;rw [zAe];refine⟨_,λw' _=>h w',?_⟩
 cases b with
 |true=>exact f (c.1 rfl)
 |false=>exact g (Q2.1 λe=>by have:=c.2 e;cases this)
theorem tixO{t e:TypeId}{z:Value}{sz d:Nat}[s:SlT P t e][v:Elem P e z sz d](f:Enc.sz α=sz){k:Value->Prop}{c:Nat}{l:List α}{x:α}(h:Own B e w (.slice a n c) l)(hi:l[i]? = some x)
  (y:∀g,Value.blk (.slice a n c)=some g->B<=g->At w g (i*sz) (enc x)->k (.pointer (some ⟨g,i*sz,none⟩))):TakeS P (Instr.indexAt t (.slice a n c) (.int .i64 i)) D k w:=by
 have A:i<l.length:=(Qy.1 hi).1;obtain⟨g,C,rfl,rfl,E,I,F,G,H,p⟩:=h.blk (by intro h0;subst h0;simp at A);rw [zAe];refine⟨_,λw' _=>zD1 s v (b:=g) (o:=0) (by omega) (by omega) w',?_⟩;obtain⟨_,b,o,q,r⟩:=h.sl.at hi;cases q;subst f;have:=y g rfl E (by simpa using r);simpa using this
theorem Bk.notOwn{B':Nat}{e d:TypeId}{v:Value}{l:List α}{b:Nat}{cs:List Value}(k:Bk w b cs d)(h:Own B e w v l)(c:e≠d:=by decide):¬ownD B' v b:=by
 intro hd;rcases h with ⟨_,a,rfl⟩|h
 ·exact hd.2.2 a rfl
 ·rcases h.2 with ⟨rfl,_⟩|⟨g,cap,o,rfl,_,p,_⟩
  ·cases hd.2.1
  ·have f:=hd.2.1;simp only [Value.blk] at f;cases f;have:=k.h;rw [p] at this;cases this;exact c rfl
class PtrT (P:Program) (t:TypeId):Prop where
 h:∃e,P.underlying t=some (.pointer e)
theorem zHl(d:Nat){t e:TypeId}(b:P.underlying t=some (.pointer e))(p:Option Addr)(w:World):(Op.equalIn (d+1) t (.pointer p) (.pointer none)).run P w=.ok p.isNone w:=by
 cases p <;> simp [Op.equalIn,run_underlying b]
theorem zPw{t:TypeId}(b:PtrT P t){X Y:Operand}(p:Option Addr)(w:World):(do eqGuard .eql t X Y (.pointer p) (.pointer none);binOp .eql t (.pointer p) (.pointer none):Sem Value).run P w=.ok (.bool p.isNone) w:=by
 obtain⟨e,c⟩:=b.h;have g:(eqGuard .eql t X Y (.pointer p) (.pointer none)).run P w=.ok () w:=rfl;rw [Qo,g,Qh];simp only [binOp];rw [Qo]
 have:(Op.equal t (.pointer p) (.pointer none)).run P w=.ok p.isNone w:=by
  exact zHl 9999 c p w
 rw [this];rfl
theorem rpnil{t:TypeId}[b:PtrT P t]{X Y:Operand}{p:Option Addr}(c:k (.bool p.isNone) w):SemV P (do eqGuard .eql t X Y (.pointer p) (.pointer none);binOp .eql t (.pointer p) (.pointer none)) k pn w:=
 SemV.of (zPw b p w) c
end
def Gw (w w':World):Prop:=∃q os,w'=Go.Sort.grow (w.drewN q) os
theorem Gw.refl(w:World):Gw w w:=⟨0,#[],by simp [World.drewN]⟩
theorem Gw.trans{a b c:World}(h:Gw a b)(k:Gw b c):Gw a c:=by
 obtain⟨q,os,rfl⟩:=h;obtain⟨e,d,rfl⟩:=k;exact⟨q+e,os++d,by simp [World.drewN,Go.Sort.grow,Nat.add_assoc,Array.append_assoc]⟩
theorem Nx.gw{w:World}{b:Nat}(n:Nx w w' b):Gw w w':=by
 obtain⟨o,rfl⟩:=n.g;exact⟨0,#[o],by rw [Go.Sort.alloc_eq_grow];rfl⟩
theorem Gw.ext{w:World}(h:Gw w w'):Ext w w':=by
 obtain⟨q,os,rfl⟩:=h;exact⟨rfl,rfl,rfl,by simp [Go.Sort.grow,World.drewN],λb c _=>by simp only [Go.Sort.grow,World.drewN];exact Xn c,λb o c _=>by simp only [Go.Sort.grow,World.drewN];rw [Xn (blk_lt c)];exact c⟩
section
variable {α:Type} [Enc α] {P:Program} {T:Tab} {n:Nat} {k:Value->World->Prop} {pn:List PanicEntry->World->Prop} {w:World}
theorem rbsN{t e:TypeId}{z:Value}{sz c:Nat}[g:SlT P t e][h:Elem P e z sz c](xs:List α)(d:Enc.sz α=sz){n:Nat}{vs:List Value}(l:vs.map (λv=>v.cells.toList)=xs.map enc)(f:xs.length=n)(o:n*sz<=16777216)
  (p:∀b w',Nx w w' b->SlF w' (.slice (some ⟨b,0,none⟩) n n) xs->k (.slice (some ⟨b,0,none⟩) n n) w'):SemV P (Instr.buildSlice t n (partsOf vs 0).toArray) k pn w:=
 SemV.of (run_bs g h d l f o w) (p _ _ (Nx.mk' w _) ((New.mk' w _ e).sl (by simp) f))
theorem drawRE(l:T.ok P=true)(o:P.follows .mixedOrders=true)(D:Nat->Prop)(t:OT){ops:Array Oper}{Q:KS}{F:Nat->Value}{w:World}(d:ordTOK ops t=true)
  (h:∀w',Stp w w'->Gw w w'->drawT P T n D ops.toList t F Q.nrm (λc w=>∀b,agree (wr (.region i ops true)) F b->Q.pan b c w) w'):DeepS P T n (.region i ops true) Q F w:=by
 rw [zAE];intro md p a q;simp only [ordTOK,Qz] at d;have hd:=zI0 l (r:=md) D ops F (wr (.region i ops true)) (λt s=>s) Q.nrm (λc w=>∀b,agree (wr (.region i ops true)) F b->Q.pan b c w) d.1.1.1 d.1.1.2 t ops.size (Array.replicate ops.size false) F _ a d.1.2 q (λ_ _=>rfl) d.2 (h { w with drawn:=w.drawn+1 } ⟨Ext.drew w⟩ ⟨1,#[],by simp [World.drewN]⟩);refine Jb ?_ (wpIn_region_any o (zBJ _ _ _ _ hd));intro e a' w' f;cases e <;> simp only [LQ] at f <;> simp only [KS.lift]
 ·exact f
 ·obtain⟨b,v,g,x⟩:=f;exact⟨b,v,g,x b g⟩
end
end Go.W
