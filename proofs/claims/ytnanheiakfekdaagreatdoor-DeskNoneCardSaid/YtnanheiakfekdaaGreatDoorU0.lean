/-
  Proved here: parts of this claim.
  Conditions: told at each.
-/
import Derived.KernelRfl
import Derived.WalkKit
import Derived.Orders
import Derived.OrdersHeld
import Derived.OrdersIn
import Derived.TacticsIn
import Derived.RangeFuncIn
import Derived.Scope
import Derived.RangeFuncLeaves
import Derived.RangeFuncRecord
import Derived.Laws.CopyOwn
import Derived.Laws.MakeOwn
import Derived.ProofKit
import Derived.SizedLaws
import Derived.WalkSpells
import Derived.Laws.StructEq
import Derived.Sort.Grow
import Derived.Deep.Draws
set_option linter.unusedVariables false
set_option linter.unusedSimpArgs false
namespace Go.W
open Go
abbrev Zz:Value:=.int .i64 0
abbrev KW:=Value->World->Prop
abbrev PW:=List PanicEntry->World->Prop
abbrev OA:=Option Addr
abbrev U8:=List UInt8
abbrev Qa:=@List.getElem_mem
abbrev Qb:=@List.length_append
abbrev Qc:=@List.mem_singleton
abbrev Qd:=@List.getElem?_eq_getElem
abbrev Qe:=@Nat.le_refl
abbrev Qf:=@List.mem_append
abbrev Qg:=@List.take_length
abbrev Qh:=@Result.andThen_ok
abbrev Qj:=@List.take_of_length_le
abbrev Qk:=@List.getD_eq_getElem?_getD
abbrev Ql:=@List.mem_cons
abbrev Qm:=@List.length_take
abbrev Qn:=@List.eq_nil_of_length_eq_zero
abbrev Qo:=@Sem.run_bind
abbrev Qp:=@List.append_assoc
abbrev Qq:=@List.mem_map
abbrev Qr:=@List.length_map
abbrev Qs:=@List.mem_cons_self
abbrev Qv:=@List.length_filter_le
abbrev Qw:=@Nat.le_trans
abbrev Qx:=@List.nodup_iff_pairwise_ne
abbrev Qy:=@List.getElem?_eq_some_iff
abbrev Qz:=@Bool.and_eq_true
abbrev QA:=@List.length_cons
abbrev QB:=@List.map_append
abbrev QC:=@List.mem_filter
abbrev QD:=@Nat.eq_of_beq_eq_true
abbrev QE:=@List.append_nil
abbrev QF:=@List.mem_cons_of_mem
abbrev QG:=@Bool.or_eq_false_iff
abbrev QH:=@Nat.lt_or_ge
abbrev QI:=@List.mem_iff_getElem
abbrev QJ:=@Nat.lt_of_lt_of_le
abbrev QK:=@List.getElem?_map
abbrev QL:=@Option.some.inj
abbrev QM:=@List.pairwise_cons
abbrev QN:=@List.mem_append_left
abbrev QO:=@List.take_succ_eq_append_getElem
abbrev QP:=@Option.getD_some
abbrev QR:=@List.length_drop
abbrev QS:=@List.map_cons
abbrev QT:=@Array.getElem?_eq_getElem
abbrev QU:=@Int.eq_ofNat_of_zero_le
abbrev QV:=@List.filter_append
abbrev QW:=@Int.toNat_natCast
abbrev QX:=@List.pairwise_iff_getElem
abbrev QY:=@List.pairwise_map
abbrev QZ:=@List.length_nil
abbrev Q0:=@List.mem_range
abbrev Q2:=@Classical.not_not
abbrev Ja:=@List.map_congr_left
abbrev Jb:=@Code.wpIn_mono
abbrev Jc:=@List.length_set
abbrev Jd:=@Sem.run_pure
abbrev Je:=@List.nil_append
abbrev Jf:=@List.drop_zero
abbrev Jg:=@List.getElem?_eq_none
abbrev Jh:=@Int.toNat_of_nonneg
abbrev Ji:=@Nat.mul_le_mul_right
abbrev Jj:=@Array.getElem?_toList
abbrev Jk:=@World.putObj_heap_other
abbrev Jl:=@List.flatMap_append
abbrev Jm:=@List.range_succ
abbrev Jn:=@Array.getElem?_eq_none
abbrev Jo:=@Nat.add_mul
abbrev Jp:=@List.eraseIdx_eq_take_drop_succ
abbrev Jq:=@Ne.symm
abbrev Jr:=@Array.getD_eq_getD_getElem?
abbrev Jt:=@Bool.false_eq_true
abbrev Jv:=@Array.getElem?_modify
abbrev Jw:=@List.filter_cons_of_neg
abbrev Jy:=@List.mem_of_getElem?
abbrev Jz:=@Array.toArray_toList
abbrev JA:=@List.filter_eq_nil_iff
abbrev JB:=@List.findIdx?_eq_some_iff_getElem
abbrev JC:=@List.nodup_cons
abbrev JD:=@Option.map_some
abbrev JF:=@Nat.sub_zero
abbrev JH:=@List.filter_eq_self
abbrev JI:=@List.length_pos_iff
abbrev JJ:=@List.mem_append_right
abbrev JK:=@Option.some.injEq
abbrev JL:=@List.filter_cons_of_pos
abbrev JM:=@List.perm_ext_iff_of_nodup
abbrev JN:=@Nat.sub_self
abbrev JO:=@Nat.zero_add
abbrev JP:=@List.map_nil
abbrev JQ:=@Option.getD_none
abbrev JS:=@List.drop_eq_getElem_cons
abbrev JT:=@List.getElem_set_ne
abbrev JU:=@List.nodup_append
abbrev JV:=@List.flatMap_cons
abbrev JW:=@List.take_append_drop
abbrev JX:=@List.getElem_set_self
abbrev JY:=@List.foldl_cons
abbrev JZ:=@UInt8.toNat_ofNat'
abbrev Va:=@Array.getElem?_setIfInBounds_ne
abbrev Vb:=@List.getElem_cons_zero
abbrev Vc:=@Array.length_toList
abbrev Vd:=@List.take_succ_cons
abbrev Ve:=@List.findIdx?_eq_none_iff
abbrev Vf:=@Nat.le_of_ble_eq_true
abbrev Vh:=@List.getElem?_take
abbrev Vi:=@List.any_eq_true
abbrev Vj:=@List.filter_cons
abbrev Vk:=@List.getElem?_replicate
abbrev Vl:=@List.ext_getElem?
abbrev Vm:=@List.length_range
abbrev Vn:=@List.set_eq_take_append_cons_drop
abbrev Vo:=@Option.map_eq_some_iff
abbrev Vp:=@List.Perm.append_left
abbrev Vr:=@Int.le_refl
abbrev Vs:=@Int.emod_nonneg
abbrev Vt:=@List.length_eraseIdx
abbrev Vu:=@List.mem_of_mem_take
abbrev Vv:=@List.Pairwise.imp_of_mem
abbrev Vw:=@List.getElem?_set
abbrev Vy:=@Bool.not_eq_true
abbrev Vz:=@List.getElem?_drop
abbrev VA:=@List.contains_iff_mem
abbrev VB:=@Nat.min_eq_left
abbrev VC:=@List.length_singleton
abbrev VD:=@Go.RowKit.Below.heap_alloc
abbrev VE:=@List.perm_append_singleton
abbrev VF:=@List.foldl_append
abbrev VG:=@Nat.lt_trichotomy
abbrev VH:=@List.findIdx?_map
abbrev VI:=@List.getElem_take
abbrev VJ:=@Bool.not_eq_true'
abbrev VK:=@List.pairwise_append
abbrev VL:=@List.getElem?_append_left
abbrev VM:=@List.map_map
abbrev VN:=@Option.bind_some
abbrev VO:=@List.cons_append
abbrev VP:=@List.mem_flatMap
abbrev VQ:=@List.getElem_inj
abbrev VR:=@List.getElem_append
abbrev VS:=@List.getElem?_range
abbrev VT:=@Int.emod_lt_of_pos
abbrev VV:=@Bool.or_eq_true
abbrev VW:=@List.mem_replicate
abbrev VX:=@World.putObj_heap_same
abbrev VY:=@List.take_append_of_le_length
abbrev VZ:=@List.drop_drop
abbrev V0:=@List.drop_left
abbrev V1:=@Array.getElem?_setIfInBounds
abbrev V6:=@List.take_left
abbrev Xa:=@List.take_zero
abbrev Xb:=@Act.put_comm
abbrev Xc:=@List.dropLast_concat_getLast
abbrev Xd:=@World.alloc_heap_new
abbrev Xf:=@List.not_mem_nil
abbrev Xg:=@List.ext_getElem
abbrev Xh:=@List.getElem_set
abbrev Xi:=@List.map_toArray
abbrev Xj:=@List.nodup_range
abbrev Xk:=@List.getElem?_append_right
abbrev Xl:=@Int.tmod_eq_emod_of_nonneg
abbrev Xm:=@Prod.mk.injEq
abbrev Xn:=@Array.getElem?_append_left
abbrev Xp:=@Int.tdiv_eq_ediv_of_nonneg
abbrev Xq:=@Nat.mul_one
abbrev Xr:=@Array.toList_modify
abbrev Xs:=@ByteArray.toList_eq
abbrev Xv:=@Nat.add_comm
abbrev Xw:=@Classical.em
abbrev Xx:=@Option.isSome_iff_exists
abbrev Xy:=@Nat.add_zero
abbrev Xz:=@List.take_take
abbrev XA:=@World.block_lt_of_cell?
abbrev XB:=@List.length_eq_zero_iff
abbrev XD:=@Int.lt_trichotomy
abbrev XE:=@Nat.zero_le
abbrev XG:=@List.drop_of_length_le
abbrev XH:=@List.perm_middle
abbrev XI:=@List.take_append
abbrev XJ:=@List.flatMap_map
abbrev XK:=@Array.toList_map
abbrev XL:=@List.all_eq_true
abbrev XM:=@List.flatMap_nil
abbrev XN:=@Go.Sort.heap_grow_old
abbrev XO:=@List.dropLast_eq_take
abbrev XP:=@List.filterMap_append
abbrev XQ:=@List.pairwise_flatMap
abbrev XR:=@Nat.pow_le_pow_right
abbrev XS:=@Nat.pow_succ
abbrev XV:=@List.sum_append
abbrev XY:=@List.filter_sublist
abbrev XZ:=@List.not_lt
abbrev X0:=@Nat.eq_zero_or_pos
abbrev Ya:=@ArrivesIn.of_steps
abbrev Yc:=@Nat.lt_irrefl
abbrev Yd:=@Oper.semAt_eq
abbrev Ye:=@List.all_cons
abbrev Yg:=@Int.emod_eq_of_lt
abbrev Yh:=@List.drop_length
abbrev Yi:=@Nat.le_of_not_lt
abbrev Yj:=@Nat.le_of_lt
abbrev Yk:=@Int.min_eq_right
abbrev Yl:=@Nat.mod_eq_of_lt
variable {B N i j k m n:Nat} {D:Nat -> Prop} {P:Program} {a a':OA} {s:U8} {u u' w w':World}
def CQ (F:Nat->Value) (d:Nat) (v:Value):Nat->Value:=λt=>bif Nat.beq t d then v else F t
def ev (F:Nat->Value):Operand->Value
 |.tmp t=>match Nat.beq t 4294967296 with|true=>undef|false=>F t
 |.const v=>v
 |.global g=>.pointer (some ⟨g,0,none⟩)
 |.func f=>.func (.func f) #[] #[]
def KN:List Value->Nat->Value
 |[],_=>undef
 |v::_,0=>v
 |_::vs,t+1=>KN vs t
structure KS where
 nrm:(Nat->Value)->World->Prop
 ext:Nat->(Nat->Value)->World->Prop
 ret:(Nat->Value)->World->Prop
 pan:(Nat->Value)->PW
def RE:Value->Option Deferred
 |.pointer (some ⟨b,_,_⟩)=>some { target:=.collected b,args:=#[] }
 |.agg vs=>match vs.toList with
  |.func fn first captured::args=>some { target:=.fn fn captured,args:=first++args.toArray }
  |_=>none
 |_=>none
def OD:List Value->List Deferred
 |[]=>[]
 |v::r=>match RE v with|some d=>d::OD r|none=>OD r
def FH:Value->List Deferred
 |.agg vs=>OD vs.toList
 |_=>[]
def HA (v d:Value):Value:=match d with
 |.agg vs=>.agg (v::vs.toList).toArray
 |_=>.agg #[v]
theorem cM(v d:Value)(x:Deferred)(h:RE v=some x):FH (HA v d)=x::FH d:=by
 cases d<;>simp[HA,FH,OD,h]
structure FI (n:Nat) (F:Nat->Value) (a:Act):Prop where
 size:a.tmps.size=n
 le:n<=4294967296
 defers:a.defers=FH (F 4294967296)
 get:∀t,t≠4294967296->a.tmps.getD t undef=F t
def Nv (d:Option Nat) (t:Nat):Bool:=match d with|some d=>Nat.beq t d|none=>false
def MO:Op->Bool
 |.defer _=>true
 |_=>false
def PD (o:Oper) (t:Nat):Bool:=Nv o.dst t || (MO o.op && Nat.beq t 4294967296)
def HM:List Oper->Nat->Bool
 |[],_=>false
 |o::r,t=>PD o t || HM r t
def wr:Code->Nat->Bool
 |.region _ ops _,t=>HM ops.toList t
 |.seq a b,t=>wr a t || wr b t
 |.cond _ a b,t=>wr a t || wr b t
 |.block _ c,t=>wr c t
 |.loop c,t=>wr c t
 |.scope c,t=>wr c t
 |.rangeFunc ..,t=>Nat.beq t 4294967296
 |_,_=>false
def agree (ws:Nat->Bool) (F F':Nat->Value):Prop:=∀t,ws t=false->F' t=F t
def KS.lift (Q:KS) (n:Nat) (F:Nat->Value) (ws:Nat->Bool):Exit->Act->World->Prop:=λe a w =>
 match e with
 |.normal=>∃F',FI n F' a/\agree ws F F'/\Q.nrm F' w
 |.exit i=>∃F',FI n F' a/\agree ws F F'/\Q.ext i F' w
 |.ret=>∃F',FI n F' a/\agree ws F F'/\Q.ret F' w
 |.panic c=>∃F',FI n F' a/\agree ws F F'/\Q.pan F' c w
 |_=>False
structure Ce where
 kinds:List (Nat×Nat)
 offs:List (Nat×List (Option Nat))
 round:Bool:=false
def fw (r:Option Nat):Fence:={ Fence.wide with round:=r }
structure BI (P:Program) (T:Ce) (n:Nat) (c:Code) (Q:KS) (F:Nat->Value) (w:World):Prop where
 out:∀r:Option Nat,r.isSome=T.round->∀a,FI n F a->c.wpIn (fw r) 0 P (Q.lift n F (wr c)) a w
theorem SH(P:Program)(T:Ce)(n:Nat)(c:Code)(Q:KS)(F:Nat->Value)(w:World):BI P T n c Q F w↔(∀r:Option Nat,r.isSome=T.round->∀a,FI n F a->c.wpIn (fw r) 0 P (Q.lift n F (wr c)) a w):=⟨λh=>h.out,λh=>⟨h⟩⟩
structure LU (p A B:Prop):Prop where
 t:p->A
 f:¬p->B
def EN (b:Bool) (A B:Prop):Prop:=match b with|true=>A|false=>B
def CH (P : Program) (f : FuncId) : Prop := ∃ fn, P.funcs[f]? = some fn /\ fn.body.isSome = true /\ (fn.name == "runtime.NumGoroutine") = false
def Ret (R:KW):Ending->World->Prop
 |.returned v,w=>R v w
 |_,_=>False
def H3 (R:KW) (pn:PW):Ending->World->Prop
 |.returned v,w=>R v w
 |.panicked c,w=>pn c w
 |.outgrown,_=>False
structure Sp (P:Program) (f:FuncId) (args:Array Value) (w:World) (R:KW):Prop where
 can:CH P f
 calls:Calls P f args w (Ret R)
structure Gz (P:Program) (f:FuncId) (args:Array Value) (k:KW) (pn:PW) (w:World):Prop where
 out:CH P f/\Calls P f args w (H3 k pn)
theorem Us(P:Program)(f:FuncId)(args:Array Value)(k:KW)(b:PW)(w:World):Gz P f args k b w↔(CH P f/\Calls P f args w (H3 k b)):=⟨λh=>h.out,λh=>⟨h⟩⟩
structure AI (P:Program) (s:Sem Value) (k:KW) (pn:PW) (w:World):Prop where
 out:match s.run P w with | .ok v w'=>k v w' | .halt (.panic v) w'=>pn [{ v,recovered:=false }] w' | .halt _ _=>False
theorem YU(P:Program)(s:Sem Value)(k:KW)(b:PW)(w:World):AI P s k b w↔(match s.run P w with | .ok v w'=>k v w' | .halt (.panic v) w'=>b [{ v,recovered:=false }] w' | .halt _ _=>False):=⟨λh=>h.out,λh=>⟨h⟩⟩
structure Ed (P:Program) (s:Sem Unit) (k:KW) (pn:PW) (w:World):Prop where
 out:match s.run P w with | .ok _ w'=>k undef w' | .halt (.panic v) w'=>pn [{ v,recovered:=false }] w' | .halt _ _=>False
theorem bB(P:Program)(s:Sem Unit)(k:KW)(b:PW)(w:World):Ed P s k b w↔(match s.run P w with | .ok _ w'=>k undef w' | .halt (.panic v) w'=>b [{ v,recovered:=false }] w' | .halt _ _=>False):=⟨λh=>h.out,λh=>⟨h⟩⟩
structure LN (P:Program) (l:Nat) (f:FuncId) (tmps:Array Value) (assign body:Code) (k:KW) (pn:PW) (w:World):Prop where
 out:RoundIn Fence.wide 0 P l f tmps assign body w (H3 k pn)
structure DT (P:Program) (s:Sem Next) (k:KW) (pn:PW) (w:World):Prop where
 out:match s.run P w with
 |.ok (.value v) w'=>k v w'
 |.ok .skip w'=>k undef w'
 |.ok (.enter f args) w'=>Gz P f args k pn w'
 |.ok (.round l f tmps assign body) w'=>LN P l f tmps assign body k pn w'
 |.halt (.panic v) w'=>pn [{ v,recovered:=false }] w'
 |_=>False
theorem Si(P:Program)(s:Sem Next)(k:KW)(b:PW)(w:World):DT P s k b w↔(match s.run P w with
 |.ok (.value v) w'=>k v w'
 |.ok .skip w'=>k undef w'
 |.ok (.enter f args) w'=>Gz P f args k b w'
 |.ok (.round l f tmps assign body) w'=>LN P l f tmps assign body k b w'
 |.halt (.panic v) w'=>b [{ v,recovered:=false }] w'
 |_=>False):=⟨λh=>h.out,λh=>⟨h⟩⟩
structure Ob (kd:IntKind) (x:Int) (k:KW) (w:World):Prop where
 out:k (.int kd (kd.wrap x)) w
theorem ZX(kd:IntKind)(x:Int)(k:KW)(w:World):Ob kd x k w↔(k (.int kd (kd.wrap x)) w):=⟨λh=>h.out,λh=>⟨h⟩⟩
structure Sj (kd:IntKind) (x y:Int) (k:KW) (w:World):Prop where
 out:y≠0/\k (.int kd (kd.wrap (x.tdiv y))) w
theorem bY(kd:IntKind)(x y:Int)(k:KW)(w:World):Sj kd x y k w↔(y≠0/\k (.int kd (kd.wrap (x.tdiv y))) w):=⟨λh=>h.out,λh=>⟨h⟩⟩
structure PC (kd:IntKind) (x y:Int) (k:KW) (w:World):Prop where
 out:y≠0/\k (.int kd (x.tmod y)) w
theorem aD(kd:IntKind)(x y:Int)(k:KW)(w:World):PC kd x y k w↔(y≠0/\k (.int kd (x.tmod y)) w):=⟨λh=>h.out,λh=>⟨h⟩⟩
def HL:IntKind->IntKind->Bool
 |.i8,.i8 | .i16,.i16 | .i32,.i32 | .i64,.i64 | .u8,.u8 | .u16,.u16 | .u32,.u32 | .u64,.u64=>true
 |_,_=>false
def Nc (op:BinOp) (m n:Int) (k:KW) (alt:Prop) (w:World):Prop:=
 match op with
 |.eql=>LU (m=n) (k (.bool true) w) (k (.bool false) w)
 |.neq=>LU (m≠n) (k (.bool true) w) (k (.bool false) w)
 |.lss=>LU (m<n) (k (.bool true) w) (k (.bool false) w)
 |.leq=>LU (m<=n) (k (.bool true) w) (k (.bool false) w)
 |.gtr=>LU (n<m) (k (.bool true) w) (k (.bool false) w)
 |.geq=>LU (n<=m) (k (.bool true) w) (k (.bool false) w)
 |_=>alt
def Ox (P:Program) (op:BinOp) (t:TypeId) (a b:Operand) (x y:Value) (k:KW) (pn:PW) (w:World):Prop:=
 match x,y with
 |.int kx m,.int ky n =>
  bif HL kx ky then
   match op with
   |.add=>Ob kx (m+n) k w
   |.sub=>Ob kx (m - n) k w
   |.mul=>Ob kx (m*n) k w
   |.quo=>Sj kx m n k w
   |.rem=>PC kx m n k w
   |op=>Nc op m n k (AI P (do eqGuard op t a b (.int kx m) (.int ky n);binOp op t (.int kx m) (.int ky n)) k pn w) w
  else False
 |x,y=>AI P (do eqGuard op t a b x y;binOp op t x y) k pn w
def kE (P:Program) (op:UnOp) (x:Value) (k:KW) (pn:PW) (w:World):Prop:=
 match op,x with
 |.not,.bool b=>k (.bool (!b)) w
 |op,x=>AI P (Op.unary op x) k pn w
def jS (P:Program) (f:Value) (args:List Value) (alt:Prop) (k:KW) (pn:PW) (w:World):Prop:=
 match f with
 |.func (.func g) first captured=>Gz P g (first.toList++args++captured.toList).toArray k pn w
 |_=>alt
def lk {α:Type}:List (Nat×α)->Nat->α->α
 |[],_,d=>d
 |(k,v)::r,t,d=>bif Nat.beq k t then v else lk r t d
def Ij {α:Type}:List α->Nat->Option α
 |[],_=>none
 |x::_,0=>some x
 |_::r,i+1=>Ij r i
def PX (T:Ce) (t:TypeId) (x:Value) (alt:Prop) (k:KW) (w:World):Prop:=
 match x with
 |.slice _ n _=>match lk T.kinds t 0 with|1=>k (.int .i64 n) w|_=>False
 |.string s=>match lk T.kinds t 0 with|2=>k (.int .i64 s.size) w|_=>False
 |_=>alt
def KB (T:Ce) (s f:Nat) (x:Value) (alt:Prop) (k:KW) (w:World):Prop:=
 match x with
 |.pointer (some ⟨b,o,none⟩)=>match Ij (lk T.offs s []) f with
  |some (some d)=>k (.pointer (some ⟨b,o+d,none⟩)) w
  |_=>alt
 |_=>alt
def MU (c a b:Value) (k:KW) (w:World):Prop:=
 match c with
 |.bool c=>match c with|true=>k a w|false=>k b w
 |_=>False
def Pc (x:Value) (alt:Prop) (k:KW) (w:World):Prop:=
 match x with
 |.pointer (some a)=>k (.pointer (some a)) w
 |_=>alt
def Pk (t:Value) (i:Nat) (k:KW) (w:World):Prop:=
 match t with
 |.tuple vs=>match Ij vs.toList i with|some v=>k v w|none=>False
 |_=>False
def IE (F:Nat->Value):List Operand->List Value
 |[]=>[]
 |x::r=>ev F x::IE F r
def Ud (F:Nat->Value):List (Nat×Operand)->List (Nat×Value)
 |[]=>[]
 |(i,x)::r=>(i,ev F x)::Ud F r
def Pf (P:Program) (T:Ce) (o:Oper) (c:Call) (F:Nat->Value) (k:KW) (pn:PW) (w:World):Prop:=
 match c.callee with
 |.value f=>jS P (ev F f) (IE F c.args.toList) (DT P (execOp (ev F) o) k pn w) k pn w
 |.invoke _ _=>DT P (execOp (ev F) o) k pn w
 |.builtin b=>match b with
  |.len=>match c.args.toList,c.argTypes.toList with
   |[x],[t]=>PX T t (ev F x) (DT P (execOp (ev F) o) k pn w) k w
   |_,_=>False
  |.append=>AI P (Builtin.append_ c.argTypes o.type (IE F c.args.toList).toArray) k pn w
  |.copy=>AI P (Builtin.copy_ c.argTypes o.type (IE F c.args.toList).toArray) k pn w
  |.max=>AI P (Builtin.max_ c.argTypes o.type (IE F c.args.toList).toArray) k pn w
  |.min=>AI P (Builtin.min_ c.argTypes o.type (IE F c.args.toList).toArray) k pn w
  |.cap=>AI P (Builtin.cap_ c.argTypes o.type (IE F c.args.toList).toArray) k pn w
  |.delete=>AI P (Builtin.delete_ c.argTypes o.type (IE F c.args.toList).toArray) k pn w
  |_=>DT P (execOp (ev F) o) k pn w
def IY (P:Program) (T:Ce) (o:Oper) (F:Nat->Value) (k:KW) (pn:PW) (w:World):Prop:=
 match o.op with
 |.move x | .assign x=>k (ev F x) w
 |.pick c a b=>MU (ev F c) (ev F a) (ev F b) k w
 |.binOp op t x y _=>Ox P op t x y (ev F x) (ev F y) k pn w
 |.unOp op _ x=>kE P op (ev F x) k pn w
 |.fieldAddr s x f=>KB T s f (ev F x) (AI P (Instr.fieldAt s (ev F x) f) k pn w) k w
 |.extract t i=>Pk (ev F t) i k w
 |.makeFunc fn first captured=>k (.func fn (IE F first.toList).toArray (IE F captured.toList).toArray) w
 |.call c=>Pf P T o c F k pn w
 |.build t parts=>AI P (Instr.build t (Ud F parts.toList).toArray) k pn w
 |.buildSlice t len parts=>AI P (Instr.buildSlice t len (Ud F parts.toList).toArray) k pn w
 |.alloc elem=>AI P (Instr.alloc elem true (.tuple #[])) k pn w
 |.box elem x=>AI P (Instr.box elem (ev F x)) k pn w
 |.load t a=>AI P (Instr.loadAt t (ev F a)) k pn w
 |.store t a x=>Ed P (Instr.storeAt t (ev F a) (ev F x)) k pn w
 |.indexAddr t x ix=>AI P (Instr.indexAt t (ev F x) (ev F ix)) k pn w
 |.index t x ix=>AI P (Instr.index t (ev F x) (ev F ix)) k pn w
 |.slice t x lo hi mx=>AI P (Instr.sliceAt t (ev F x) (lo.map (ev F)) (hi.map (ev F)) (mx.map (ev F))) k pn w
 |.makeSlice t l c=>AI P (Instr.makeSlice t (ev F l) (ev F c)) k pn w
 |.lookup t x ix ok=>AI P (Instr.lookup t (ev F x) (ev F ix) ok) k pn w
 |.mapUpdate t m kk x=>Ed P (Instr.mapUpdate t (ev F m) (ev F kk) (ev F x)) k pn w
 |.convert src dst x=>AI P (convert src dst (ev F x)) k pn w
 |.field t x f=>AI P (Instr.field t (ev F x) f) k pn w
 |.makeInterface t x=>AI P (Instr.makeInterface t (ev F x)) k pn w
 |.typeAssert x t u ok=>AI P (Instr.typeAssert (ev F x) t u ok) k pn w
 |.panic x=>AI P (Instr.panic (ev F x)) k pn w
 |.nilCheck x=>Pc (ev F x) (DT P (execOp (ev F) o) k pn w) k w
 |.defer _=>False
 |_=>DT P (execOp (ev F) o) k pn w
def BY (n:Nat) (F:Nat->Value) (d:Option Nat) (v:Value) (k:(Nat->Value)->Prop):Prop:=
 match d with
 |none=>k F
 |some d=>match Nat.blt d n with|true=>k (CQ F d v)|false=>False
def Uz (T:Ce) (o:Oper) (c:Call) (F:Nat->Value) (k:(Nat->Value)->Prop):Prop:=
 match T.round,o.guard,o.dst,c.callee with
 |false,none,none,.value f=>match ev F f with
  |.func fn first cap=>k (CQ F 4294967296 (HA (.agg (.func fn first cap::IE F c.args.toList).toArray) (F 4294967296)))
  |_=>False
 |_,_,_,_=>False
def Et (P : Program) (T : Ce) (n : Nat) (all : List Oper) (o : Oper) (ih : (Nat -> Value) -> ((Nat -> Value) -> World -> Prop) -> ((Nat -> Value) -> List PanicEntry -> World -> Prop) -> World -> Prop)
    (F : Nat -> Value) (k : (Nat -> Value) -> World -> Prop) (pn : (Nat -> Value) -> List PanicEntry -> World -> Prop) (w : World) : Prop :=
  match o.op with
  | .defer c => Uz T o c F λF' => ih F' k pn w
  | _ => match o.guard with
    | none => IY P T o F (λv w' => BY n F o.dst v λF' => ih F' k pn w') (pn F) w
    | some (j, want) => match Ij all j with
      | some g => match g.dst with
        | some d => match F d with
          | .bool b => match Nat.blt d n with
            | true => match want with
              | true => EN b (IY P T o (CQ F d (.bool true)) (λv w' => BY n (CQ F d (.bool true)) o.dst v λF' => ih F' k pn w') (pn (CQ F d (.bool true))) w)
                  (BY n (CQ F d (.bool false)) o.dst undef λF' => ih F' k pn w)
              | false => EN b (BY n (CQ F d (.bool true)) o.dst undef λF' => ih F' k pn w)
                  (IY P T o (CQ F d (.bool false)) (λv w' => BY n (CQ F d (.bool false)) o.dst v λF' => ih F' k pn w') (pn (CQ F d (.bool false))) w)
            | false => False
          | .tuple _ => BY n F o.dst undef λF' => ih F' k pn w
          | _ => False
        | none => False
      | none => False
def Dv (P:Program) (T:Ce) (n:Nat) (all:List Oper) (l:List Oper):(Nat->Value)->((Nat->Value)->World->Prop)->((Nat->Value)->PW)->World->Prop:=
 List.rec (motive:=λ_=>(Nat->Value)->((Nat->Value)->World->Prop)->((Nat->Value)->PW)->World->Prop) (λF k _ w=>k F w) (λo _ ih=>Et P T n all o ih) l
theorem dW(P:Program)(T:Ce)(n:Nat)(all:List Oper)(o:Oper)(r:List Oper)(F:Nat->Value)(k:(Nat->Value)->World->Prop)(b:(Nat->Value)->PW)(w:World):
  Dv P T n all (o::r) F k b w=Et P T n all o (Dv P T n all r) F k b w:=rfl
def S (P:Program) (T:Ce) (n:Nat) (c:Code):KS->(Nat->Value)->World->Prop:=
 Code.rec (motive:=λ_=>KS->(Nat->Value)->World->Prop)
  (λQ F w=>Q.nrm F w)
  (λi ops draw Q F w=>match draw with
   |false=>Dv P T n ops.toList ops.toList F Q.nrm Q.pan w
   |true=>BI P T n (.region i ops true) Q F w)
  (λ_ _ iha ihb Q F w=>iha { nrm:=λF' w'=>ihb Q F' w',ext:=Q.ext,ret:=Q.ret,pan:=Q.pan } F w)
  (λc _ _ iha ihb Q F w=>match ev F c with
   |.bool t=>EN t (iha Q F w) (ihb Q F w)
   |_=>False)
  (λi _ ih Q F w=>ih { nrm:=Q.nrm,ext:=λj F' w'=>match Nat.beq j i with|true=>Q.nrm F' w'|false=>Q.ext j F' w',ret:=Q.ret,pan:=Q.pan } F w)
  (λc _ Q F w=>BI P T n (.loop c) Q F w)
  (λf ps as b _ _ Q F w=>BI P T n (.rangeFunc f ps as b) Q F w)
  (λi Q F w=>Q.ext i F w)
  (λ_ ih Q F w=>ih Q F w)
  (λ_ Q F w=>Q.nrm F w)
  (λl Q F w=>BI P T n (.goto l) Q F w)
  (λQ F w=>Q.ret F w)
  (λy Q F w=>BI P T n (.refuse y) Q F w) c
section
variable (P:Program) (T:Ce) (n:Nat) (Q:KS) (F:Nat->Value) (w:World)
theorem Dk:S P T n .skip Q F w=Q.nrm F w:=rfl
theorem OM(l:Nat):S P T n (.label l) Q F w=Q.nrm F w:=rfl
theorem Er:S P T n .ret Q F w=Q.ret F w:=rfl
theorem Df(i:Nat):S P T n (.exit i) Q F w=Q.ext i F w:=rfl
theorem Es(a b:Code):S P T n (.seq a b) Q F w=S P T n a { Q with nrm:=λc w'=>S P T n b Q c w' } F w:=rfl
theorem De(c:Operand)(a b:Code):S P T n (.cond c a b) Q F w=match ev F c with
  |.bool t=>EN t (S P T n a Q F w) (S P T n b Q F w)
  |_=>False:=rfl
theorem Nt(i:Nat)(c:Code):S P T n (.block i c) Q F w=S P T n c { Q with ext:=λj b w'=>match Nat.beq j i with|true=>Q.nrm b w'|false=>Q.ext j b w' } F w:=rfl
theorem Nu(c:Code):S P T n (.scope c) Q F w=S P T n c Q F w:=rfl
theorem Ns(i:Nat)(ops:Array Oper):S P T n (.region i ops false) Q F w=Dv P T n ops.toList ops.toList F Q.nrm Q.pan w:=rfl
theorem Dd(i:Nat)(ops:Array Oper):S P T n (.region i ops true) Q F w=BI P T n (.region i ops true) Q F w:=rfl
theorem Dg(c:Code):S P T n (.loop c) Q F w=BI P T n (.loop c) Q F w:=rfl
theorem N6(f:Operand)(ps:Array Tmp)(a b:Code):S P T n (.rangeFunc f ps a b) Q F w=BI P T n (.rangeFunc f ps a b) Q F w:=rfl
theorem DW(l:Nat):S P T n (.goto l) Q F w=BI P T n (.goto l) Q F w:=rfl
theorem OE(y:String):S P T n (.refuse y) Q F w=BI P T n (.refuse y) Q F w:=rfl
end
end Go.W
set_option linter.unusedSimpArgs false
namespace Go.W
open Go
variable {B N i j k m n:Nat} {D:Nat -> Prop} {P:Program} {a a':OA} {s:U8} {u u' w w':World}
def Hz (P:Program) (k:KW) (pn:PW):Result Next->Prop
 |.ok (.value v) w'=>k v w'
 |.ok .skip w'=>k undef w'
 |.ok (.enter f args) w'=>Calls P f args w' (H3 k pn)
 |.ok (.round l f tmps assign body) w'=>RoundIn Fence.wide 0 P l f tmps assign body w' (H3 k pn)
 |.halt (.panic v) w'=>pn [{ v,recovered:=false }] w'
 |_=>False
theorem iE(r:Option Nat){f:FuncId}{args:Array Value}{R:Ending->World->Prop}(h:Calls P f args w R):CallsIn (fw r) n P f args w R:=callsIn_wide (n:=n).2 h
theorem zQz(r:Option Nat)(n:Nat):(fw r).room n:=λ_ h=>by simp[fw,Fence.wide]at h
theorem zMa{md:Option Nat}{o:Oper}{a:Act}{next:Act->World->Prop}{Q:Exit->Act->World->Prop}{k:KW}
  {g:PW}{r:Result Next}(h:Hz P k g r)(d:∀v w,k v w->next (a.put o.dst v) w)
  (p:∀c w,g c w->Q (.panic c) a w):o.uponIn (fw md) 0 P a next Q r:=by
 cases r with
 |ok x w' =>
  cases x<;>simp only[Hz]at h<;>simp only[Oper.uponIn]
  case value v=>exact d _ _ h
  case skip=>exact d _ _ h
  case enter f args =>
   refine⟨λh=>by simp[fw,Fence.wide]at h,iE md (h.mono ?_)⟩;intro e q b
   cases e with
   |returned v=>exact d _ _ b
   |panicked c=>exact p _ _ b
   |outgrown=>exact b.elim
  case round l f tmps assign body =>
   refine⟨λh=>by simp[fw,Fence.wide]at h,?_⟩;have h:RoundIn (fw md) 0 P l f tmps assign body w' (H3 k g):=h;refine h.mono ?_;intro e q b
   cases e with
   |returned v=>exact d _ _ b
   |panicked c=>exact p _ _ b
   |outgrown=>exact b.elim
 |halt x w' =>
  cases x<;>simp only[Hz]at h<;>simp only[Oper.uponIn];exact p _ _ h
section
variable {P:Program} {k:KW} {pn:PW} {w:World}
theorem Ib{s:Sem Value}(h:AI P s k pn w):Hz P k pn ((do let x <-s;pure (Next.value x):Sem Next).run P w):=by
 rw[YU]at h;rw[Qo]
 cases b:s.run P w with
 |ok v w'=>simp only[b]at h;simpa[Hz]using h
 |halt x w'=>simp only[b]at h;cases x<;>simp_all[Hz]
theorem aF{s:Sem Unit}(h:Ed P s k pn w):Hz P k pn ((do s;pure Next.skip:Sem Next).run P w):=by
 rw[bB]at h;rw[Qo]
 cases b:s.run P w with
 |ok v w'=>simp only[b]at h;simpa[Hz]using h
 |halt x w'=>simp only[b]at h;cases x<;>simp_all[Hz]
theorem iK{s:Sem Next}(h:DT P s k pn w):Hz P k pn (s.run P w):=by
 rw[Si]at h
 cases b:s.run P w with
 |ok v w' =>
  simp only[b]at h;cases v<;>simp only[Hz]<;>simp only at h<;>try exact h
  ·rw[Us]at h;exact h.2
  ·exact h.out
 |halt x w'=>simp only[b]at h;cases x<;>simp_all[Hz]
theorem wS:∀{a b:IntKind},HL a b=true->a=b:=by
 intro a b h;cases a<;>cases b<;>simp_all[HL]
theorem RC(F:Nat->Value)(l:List Operand):IE F l=l.map (ev F):=by induction l<;>simp_all[IE,ev]
theorem RN(F:Nat->Value)(l:Array Operand):(IE F l.toList).toArray=l.map (ev F):=by
 rw[RC,<-XK,Jz]
theorem oW(F:Nat->Value)(l:Array (Nat×Operand)):(Ud F l.toList).toArray=l.map (λ(i,x)=>(i,ev F x)):=by
 have:∀m:List (Nat×Operand),Ud F m=m.map (λ(i,x)=>(i,ev F x)):=by
  intro m;induction m with
  |nil=>rfl
  |cons x r b=>obtain⟨i,y⟩:=x;simp[Ud,b]
 rw[this,<-XK,Jz]
theorem Dw{α:Type}(l:List α)(i:Nat):Ij l i=l[i]?:=by
 induction l generalizing i with
 |nil=>simp[Ij]
 |cons x r b=>cases i<;>simp[Ij,b]
theorem HJ(s:Sem Value)(w:World):(do let x <-s;pure (Next.value x):Sem Next).run P w=(s.run P w).andThen λv w'=>.ok (.value v) w':=by
 rw[Qo];rfl
theorem pD(b:BinOp)(t:TypeId)(x y:Operand)(c d:IntKind)(m n:Int)(w:World):
  (eqGuard b t x y (.int c m) (.int d n)).run P w=.ok () w:=by
 cases b<;>rfl
theorem zQX{d:BinOp}{t:TypeId}{x y:Operand}{a b:Value}(h:Ox P d t x y a b k pn w):
  Hz P k pn ((do let v <-(do eqGuard d t x y a b;binOp d t a b:Sem Value);pure (Next.value v):Sem Next).run P w):=by
 by_cases hi:(∃c m,a=.int c m)/\(∃g n,b=.int g n)
 ·obtain⟨⟨c,m,rfl⟩,⟨g,n,rfl⟩⟩:=hi;simp only[Ox]at h
  cases o:HL c g with
  |false=>simp only[o,cond_false]at h
  |true =>
   simp only[o,cond_true]at h;obtain rfl:=wS o
   have e:∀v,(binOp d t (.int c m) (.int c n)).run P w=.ok v w->k v w->Hz P k pn ((do let v <-(do eqGuard d t x y (.int c m) (.int c n);binOp d t (.int c m) (.int c n):Sem Value);pure (Next.value v):Sem Next).run P w):=by
    intro v q p;rw[HJ,Qo,pD];simp only[Qh,q,Hz];exact p
   cases d<;>simp only[Nc,ZX,bY,aD]at h<;>first
    |exact Ib h
    |(refine e _ ?_ h;simp[binOp,Op.intArith];done)
    |(obtain⟨h0,r⟩:=h;refine e _ ?_ r;simp[binOp,Op.intDiv,h0];done)
    |(rcases Xw _ with l|l;(refine e (.bool true) ?_ (h.t l);simp[binOp,Op.intCmp];first|exact l|omega);(refine e (.bool false) ?_ (h.f l);simp[binOp,Op.intCmp];first|exact l|omega))
 ·have:Ox P d t x y a b k pn w=AI P (do eqGuard d t x y a b;binOp d t a b) k pn w:=by
   unfold Ox;split
   ·rename_i c m g n;exact absurd ⟨⟨c,m,rfl⟩,⟨g,n,rfl⟩⟩ hi
   ·rfl
  rw[this]at h;exact Ib h
end
def Ce.chkK (P:Program) (e:Nat×Nat):Bool:=
 match e.2 with
 |1=>match P.underlying e.1 with|some (.slice _)=>true|_=>false
 |2=>match P.underlying e.1 with|some .string=>true|_=>false
 |_=>true
def Ce.chkF (P:Program) (fs:List Field):List (Option Nat)->Bool
 |[]=>true
 |o::r=>match fs with
  |[]=>false
  |f::fs'=>(match o with
   |none=>true
   |some d=>Nat.beq f.offset d && (match P.info? f.type with|some i=>!Nat.beq i.size 0|none=>false)) && Ce.chkF P fs' r
def Ce.chkO (P:Program) (e:Nat×List (Option Nat)):Bool:=
 match P.underlying e.1 with
 |some (.struct fs)=>Ce.chkF P fs.toList e.2
 |_=>false
def Ce.ok (P:Program) (T:Ce):Bool:=T.kinds.all (Ce.chkK P) && T.offs.all (Ce.chkO P)
theorem NR{α : Type}(l : List (Nat × α))(t : Nat)(d : α) : lk l t d = d \/ (t, lk l t d) ∈ l := by
  induction l with
  | nil => exact .inl rfl
  | cons x r c =>
    obtain⟨j, v⟩ := x;unfold lk
    cases h : Nat.beq j t with
    | true => rw[QD h]; right; simp
    | false => rcases c with b|b
               · left; simpa using b
               · right; simp only[cond_false]; exact QF _ b
theorem Ce.slice{T:Ce}(c:T.ok P=true){t:Nat}(h:lk T.kinds t 0=1):∃e,P.underlying t=some (.slice e):=by
 simp only[Ce.ok,Qz,XL]at c;rcases NR T.kinds t 0 with b|b
 ·rw[h]at b;cases b
 ·rw[h]at b;have:=c.1 _ b;simp only[Ce.chkK]at this;split at this
  ·exact⟨_,‹_›⟩
  ·cases this
theorem Ce.string{T:Ce}(c:T.ok P=true){t:Nat}(h:lk T.kinds t 0=2):P.underlying t=some .string:=by
 simp only[Ce.ok,Qz,XL]at c;rcases NR T.kinds t 0 with b|b
 ·rw[h]at b;cases b
 ·rw[h]at b;have:=c.1 _ b;simp only[Ce.chkK]at this;split at this
  ·assumption
  ·cases this
theorem Ce.chkF_get:∀(fs:List Field) (l:List (Option Nat)) (i d:Nat),Ce.chkF P fs l=true->l[i]? = some (some d) ->
  ∃f,fs[i]? = some f/\f.offset=d/\∃j,P.info? f.type=some j/\j.size≠0
 |_,[],i,d,_,h=>by simp at h
 |[],o::r,i,d,h,_=>by simp[Ce.chkF]at h
 |f::fs,o::r,0,d,h,b=>by
  simp only[List.getElem?_cons_zero,JK]at b;subst b;simp only[Ce.chkF,Qz]at h;obtain⟨⟨e,c⟩,_⟩:=h;refine⟨f,rfl,QD e,?_⟩;split at c
  ·rename_i j g;exact⟨j,g,by intro h0;simp[h0]at c⟩
  ·cases c
 |f::fs,o::r,i+1,d,h,b=>by
  simp only[Ce.chkF,Qz]at h;simpa using Ce.chkF_get fs r i d h.2 (by simpa using b)
theorem Ce.field{T:Ce}(g:T.ok P=true){s f d:Nat}(h:Ij (lk T.offs s []) f=some (some d)):
  ∃fs b,P.underlying s=some (.struct fs)/\fs[f]? = some b/\b.offset=d/\∃j,P.info? b.type=some j/\j.size≠0:=by
 simp only[Ce.ok,Qz,XL]at g;rw[Dw]at h;rcases NR T.offs s [] with c|c
 ·rw[c]at h;simp at h
 ·have:=g.2 _ c;simp only[Ce.chkO]at this;split at this
  ·rename_i fs e;obtain⟨b,l,o,p⟩:=Ce.chkF_get _ _ _ _ this h;exact⟨fs,b,e,by simp_all⟩
  ·cases this
section
variable {P:Program} {T:Ce} {k:KW} {pn:PW} {w:World}
theorem lP(c:T.ok P=true){s f d b o:Nat}(h:Ij (lk T.offs s []) f=some (some d))(w:World):
  (Instr.fieldAt s (.pointer (some ⟨b,o,none⟩)) f).run P w=.ok (.pointer (some ⟨b,o+d,none⟩)) w:=by
 obtain⟨fs,q,e,g,l,j,p,h5⟩:=Ce.field c h
 have:(⟨b,o,none⟩:Addr).add d=⟨b,o+d,none⟩:=by
  unfold Addr.add;split<;>simp_all
 simp[Instr.fieldAt,underlying,e,g,Instr.sureAddr,fieldPlace,sizeOf,typeInfo,p,h5,l,this]
theorem r8{t ty:TypeId}{e:TypeId}(h:P.underlying t=some (.slice e))(a:OA)(n c:Nat)(w:World):
  (Builtin.len_ #[t] ty #[.slice a n c]).run P w=.ok (.int .i64 n) w:=by
 simp[Builtin.len_,underlying,h,goInt]
theorem qK{t ty:TypeId}(h:P.underlying t=some .string)(s:ByteArray)(w:World):
  (Builtin.len_ #[t] ty #[.string s]).run P w=.ok (.int .i64 s.size) w:=by
 simp[Builtin.len_,underlying,h,goInt]
theorem UI{f:FuncId}{args:Array Value}(h:CH P f)(w:World):(callFunc f args).run P w=.ok (.enter f args) w:=by
 obtain⟨fn,b,c,d⟩:=h;have e:fn.body≠none:=by intro hb;simp[hb]at c
 have h5 : fn.name ≠ "runtime.NumGoroutine" := by simpa using d
 simp[callFunc,b,e,h5]
theorem zM(A : T.ok P = true){o : Oper}{F : Nat -> Value}(h : IY P T o F k pn w) : Hz P k pn ((execOp (ev F) o).run P w) := by
  unfold IY at h;unfold execOp;split at h<;>rename_i C<;>simp only[C]
  · simpa[Hz]using h
  · simpa[Hz]using h
  · unfold MU at h
    split at h
    · rename_i c E
      simp only[E, asBool];cases c<;>simpa[Hz]using h
    · exact h.elim
  · exact zQX h
  · unfold kE at h
    split at h
    · rename_i b hb
      simpa[hb, Op.unary, Hz]using h
    · exact Ib h
  · unfold KB at h
    split at h
    · rename_i b o hb
      split at h
      · rename_i d hd
        rw[HJ, hb, lP A hd];simpa[Hz]using h
      · exact Ib (by omega)
    · exact Ib h
  · rename_i t i
    unfold Pk at h;split at h
    · rename_i vs r
      rw[Dw]at h;split at h
      · rename_i v G
        have : vs[i]? = some v := by simpa using G
        simp only[r, Instr.extract, this];simpa[Hz]using h
      · exact h.elim
    · exact h.elim
  · rw[RN, RN]at h
    simpa[Instr.makeFunc, Hz]using h
  · rename_i c
    have p : DT P (execOp (ev F) o) k pn w -> Hz P k pn ((do let d <- resolve (ev F) c o.type; invoke d.target d.args : Sem Next).run P w) := by
      intro h;have := iK h;simpa[execOp, C]using this
    have H : ∀ b s, c.callee = .builtin b -> (∀ q, builtin b c.argTypes o.type q (c.args.map (ev F)) = (do let x <- s; pure (Next.value x))) ->
        Hz P k pn ((do let x <- s; pure (Next.value x) : Sem Next).run P w) -> Hz P k pn ((do let d <- resolve (ev F) c o.type; invoke d.target d.args : Sem Next).run P w) := by
      intro b s E hb h
      have : (do let d <- resolve (ev F) c o.type; invoke d.target d.args : Sem Next) = (do let x <- s; pure (Next.value x)) := by
        simp only[resolve, E, pure_bind, invoke];exact hb _
      rw[this]; exact h
    unfold Pf at h;split at h
    · rename_i f K
      unfold jS at h;split at h
      · rename_i g first l L
        rw[Us]at h
        have e : (do let d <- resolve (ev F) c o.type; invoke d.target d.args : Sem Next) = callFunc g (first ++ c.args.map (ev F) ++ l) := by
          simp only[resolve, K, Deferred.ofValue, L, pure_bind, invoke]
        rw[e, UI h.1]
        have M : (first.toList ++ IE F c.args.toList ++ l.toList).toArray = first ++ c.args.map (ev F) ++ l := by
          rw[RC]; simp
        rw[M]at h;exact h.2
      · exact p h
    · exact p h
    · rename_i b hb
      split at h
      · split at h
        · rename_i x t O Q
          have y : c.args = #[x] := by rw[<- Jz (xs := c.args), O]
          have z : c.argTypes = #[t] := by rw[<- Jz (xs := c.argTypes), Q]
          unfold PX at h;split at h
          · rename_i a n S r
            split at h
            · rename_i I
              obtain⟨e, J⟩ := Ce.slice A I;refine H _ (Builtin.len_ c.argTypes o.type (c.args.map (ev F))) hb (λ_ => rfl) ?_;rw[HJ, y, z]; simp only[Xi, QS, JP, r, r8 J];exact h
            · exact h.elim
          · rename_i s r
            split at h
            · rename_i I
              have J := Ce.string A I;refine H _ (Builtin.len_ c.argTypes o.type (c.args.map (ev F))) hb (λ_ => rfl) ?_;rw[HJ, y, z]; simp only[Xi, QS, JP, r, qK J];exact h
            · exact h.elim
          · exact p h
        · exact h.elim
      all_goals first
        | exact p h
        | (rw[RN]at h; exact H _ _ hb (λ_ => rfl) (Ib h))
  all_goals first
    | exact Ib h
    | (rw[oW]at h; exact Ib h)
    | exact aF h
    | exact h.elim
    | (unfold Pc at h
       split at h
       · rename_i a R
         simp only[R];simpa[Hz]using h
       · have := iK h
         unfold execOp at this;simpa only[C]using this)
    | (have := iK h; unfold execOp at this; simpa only using this)
end
theorem cG(F:Nat->Value)(d:Nat):CQ F d (F d)=F:=by
 funext t;unfold CQ
 cases h:Nat.beq t d with
 |true=>simp[QD h]
 |false=>simp
section
variable {P:Program} {T:Ce} {n:Nat}
theorem FI.eval{F:Nat->Value}{a:Act}(h:FI n F a):a.eval=ev F:=by
 funext x;cases x<;>simp only[Act.eval,ev];rename_i t;split
 ·rename_i hb;have b:=QD hb;have:a.tmps[t]? = none:=Jn (by rw[h.size,b];exact h.le);simp[Jr,this]
 ·rename_i hb;exact h.get t λe=>by simp_all
theorem FI.put{F:Nat->Value}{a:Act}(h:FI n F a){d:Option Nat}{v:Value}{k:(Nat->Value)->Prop}(b:BY n F d v k):
  ∃f,FI n f (a.put d v)/\agree (Nv d) F f/\k f:=by
 cases d with
 |none=>exact⟨F,h,λ_ _=>rfl,b⟩
 |some d =>
  simp only[BY]at b;split at b
  ·rename_i hb;have AY:d<n:=by simp_all
   refine⟨CQ F d v,⟨?_,h.le,?_,?_⟩,?_,b⟩
   ·simp[Act.put,h.size]
   ·have g:Nat.beq 4294967296 d=false:=by
     cases o:Nat.beq 4294967296 d with
     |false=>rfl
     |true=>have:=QD o;have:=h.le;omega
    show a.defers=FH (CQ F d v 4294967296);unfold CQ;rw[g];exact h.defers
   ·intro t c;have p:=h.size;have:=h.get t c;unfold CQ;simp only[Act.put,Jr,V1]at this ⊢
    cases hb:Nat.beq t d with
    |true=>rw[QD hb];simp[p,AY]
    |false =>
     have:d≠t:=λe=>by simp_all
     simpa[this]using h.get t c
   ·intro t l;simp only[Nv]at l;unfold CQ;rw[l];rfl
  ·exact b.elim
theorem agree.trans{c b:Nat->Bool}{A B C:Nat->Value}(h:agree c A B)(d:agree b B C):agree (λt=>c t || b t) A C:=by simp_all[agree]
theorem agree.mono{c b:Nat->Bool}{A B:Nat->Value}(h:agree c A B)(d:∀t,b t=false->c t=false):agree b A B:=
 λt e=>h t (d t e)
def LQ (n:Nat) (F0:Nat->Value) (ws:Nat->Bool) (k:(Nat->Value)->World->Prop) (pn:(Nat->Value)->PW):Exit->Act->World->Prop:=λe a w =>
 match e with
 |.normal=>∃F',FI n F' a/\agree ws F0 F'/\k F' w
 |.panic c=>∃F',FI n F' a/\agree ws F0 F'/\pn F' c w
 |_=>False
theorem zLU{o:Oper}{F:Nat->Value}{k:KW}{b:PW}(h:IY P T o F k b w):∀c,o.op≠.defer c:=by
 intro c d;unfold IY at h;rw[d]at h;exact h
theorem NY(d:T.ok P=true){md:Option Nat}{o:Oper}{F:Nat->Value}{k:KW}{b:PW}(h:IY P T o F k b w)
  {a:Act}(e:FI n F a){next:Act->World->Prop}{Q:Exit->Act->World->Prop}
  (f:∀v w,k v w->next (a.put o.dst v) w)(g:∀c w,b c w->Q (.panic c) a w):o.wpIn (fw md) 0 P a w next Q:=by
 refine⟨λ_ _=>trivial,?_⟩;rw[Yd _ _ _ (zLU h),e.eval];exact zMa (zM d h) f g
theorem zE(fn:Fn)(first cap:Array Value)(args:List Value):RE (.agg (.func fn first cap::args).toArray)=some { target:=.fn fn cap,args:=first++args.toArray }:=rfl
theorem vZ(hT : T.ok P = true){md : Option Nat}(a0 : md.isSome = T.round)(all : Array Oper)(C : Nat -> Value)(k : (Nat -> Value) -> World -> Prop)(q : (Nat -> Value) -> List PanicEntry -> World -> Prop) :
    ∀ (l : List Oper) (p : Nat -> Bool) (F : Nat -> Value) (w : World) (a : Act), FI n F a -> agree p C F -> Dv P T n all.toList l F k q w ->
      wpListIn (fw md) 0 P all (LQ n C (λt => p t || HM l t) k q) l a w := by
  intro l
  induction l with
  | nil =>
    intro p F w a x h0 h;exact⟨F, x, h0.mono (by simp[HM]), h⟩
  | cons o rest Z =>
    intro p F w a x h0 h;have wide : ∀ {G : Nat -> Value}, agree p C G -> agree (λt => p t || HM (o :: rest) t) C G := λh => h.mono (by simp_all)
    have step : ∀ {G : Nat -> Value} {v : Value} {w' : World}, FI n G a -> agree p C G -> BY n G o.dst v (λr => Dv P T n all.toList rest r k q w') ->
        wpListIn (fw md) 0 P all (LQ n C (λt => p t || HM (o :: rest) t) k q) rest (a.put o.dst v) w' := by
      intro G v w' O H hp;obtain⟨r, h1, h2, h3⟩ := O.put hp;have := Z (λt => p t || PD o t) r w' (a.put o.dst v) h1 ((H.trans h2).mono (by intro t E; simp only[PD, QG]at E ⊢; exact⟨E.1, E.2.1⟩)) h3
      have e : (λt => (p t || PD o t) || HM rest t) = (λt => p t || HM (o :: rest) t) := by
        funext t; simp[HM, Bool.or_assoc]
      rw[e]at this;exact this
    have run : ∀ {G : Nat -> Value}, FI n G a -> agree p C G -> IY P T o G (λv w' => BY n G o.dst v λr => Dv P T n all.toList rest r k q w') (q G) w ->
        ∀ K : Act -> World -> Prop, (∀ a w, wpListIn (fw md) 0 P all (LQ n C (λt => p t || HM (o :: rest) t) k q) rest a w -> K a w) -> o.wpIn (fw md) 0 P a w K (LQ n C (λt => p t || HM (o :: rest) t) k q) := by
      intro G O H W K J;exact NY hT W O (λv w' hv => J _ _ (step O H hv)) λc w' Q => ⟨G, O, wide H, Q⟩
    refine wpListIn_step λK J => ?_;by_cases I : ∃ c, o.op = .defer c
    · obtain⟨c, Q⟩ := I
      simp only[dW, Et, Q, Uz]at h;split at h
      case h_2 => exact h.elim
      rename_i f hr L hd R;split at h
      case h_2 => exact h.elim
      rename_i fn first cap hf
      have X : md = none := by simp_all
      subst X;simp only[Region.wanted, L, if_true];refine⟨λ_ _ => trivial, ?_⟩
      have he : (Oper.semAt none a.eval o).run P w = .ok (.defer { target := .fn fn cap, args := first ++ c.args.map (ev F) }) w := by
        rw[Oper.semAt_none, x.eval];unfold execOp;simp only[Q, resolve, R, hf];rfl
      show Oper.uponIn (fw none) 0 P o a K _ ((Oper.semAt none a.eval o).run P w);rw[he];simp only[Oper.uponIn, hd];refine J _ _ ?_;let v : Value := .agg (.func fn first cap :: IE F c.args.toList).toArray
      have S : FH (HA v (F 4294967296)) = { target := .fn fn cap, args := first ++ c.args.map (ev F) } :: FH (F 4294967296) := by
        rw[<- RN]; exact cM v _ _ (zE fn first cap _)
      have U : FI n (CQ F 4294967296 (HA v (F 4294967296))) ({ a with defers := { target := .fn fn cap, args := first ++ c.args.map (ev F) } :: a.defers }.put none undef) := by
        refine⟨x.size, x.le, ?_, λt E => ?_⟩
        · show _ :: a.defers = FH (CQ F 4294967296 (HA v (F 4294967296)) 4294967296)
          unfold CQ;rw[show Nat.beq 4294967296 4294967296 = true from rfl, cond_true, S, x.defers]
        · have hb : Nat.beq t 4294967296 = false := by
            cases hq : Nat.beq t 4294967296 with
            | false => rfl
            | true => exact absurd (QD hq) E
          unfold CQ; rw[hb]; exact x.get t E
      have Y : agree (λt => p t || PD o t) C (CQ F 4294967296 (HA v (F 4294967296))) := by
        intro t E;simp only[PD, Q, MO, Bool.true_and, QG]at E;unfold CQ; rw[E.2.2]; exact h0 t E.1
      have := Z (λt => p t || PD o t) _ w _ U Y h
      have e : (λt => (p t || PD o t) || HM rest t) = (λt => p t || HM (o :: rest) t) := by
        funext t; simp[HM, Bool.or_assoc]
      rw[e]at this;exact this
    have y : Et P T n all.toList o (Dv P T n all.toList rest) F k q w = (match o.guard with
      | none => IY P T o F (λv w' => BY n F o.dst v λr => Dv P T n all.toList rest r k q w') (q F) w
      | some (j, z) => match Ij all.toList j with
        | some g => match g.dst with
          | some d => match F d with
            | .bool b => match Nat.blt d n with
              | true => match z with
                | true => EN b (IY P T o (CQ F d (.bool true)) (λv w' => BY n (CQ F d (.bool true)) o.dst v λr => Dv P T n all.toList rest r k q w') (q (CQ F d (.bool true))) w)
                    (BY n (CQ F d (.bool false)) o.dst undef λr => Dv P T n all.toList rest r k q w)
                | false => EN b (BY n (CQ F d (.bool true)) o.dst undef λr => Dv P T n all.toList rest r k q w)
                    (IY P T o (CQ F d (.bool false)) (λv w' => BY n (CQ F d (.bool false)) o.dst v λr => Dv P T n all.toList rest r k q w') (q (CQ F d (.bool false))) w)
              | false => False
            | .tuple _ => BY n F o.dst undef λr => Dv P T n all.toList rest r k q w
            | _ => False
          | none => False
        | none => False) := by
      unfold Et;cases ho : o.op<;>first|rfl|exact absurd ⟨_, ho⟩ I
    rw[dW, y]at h;clear y
    cases L : o.guard with
    | none =>
      simp only[L]at h;simp only[Region.wanted, L, if_true];exact run x h0 h K J
    | some jw =>
      obtain⟨j, z⟩ := jw;simp only[L]at h;rw[Dw]at h;split at h
      case h_2 => exact h.elim
      case h_1 g hgj =>
      split at h
      case h_2 => exact h.elim
      case h_1 d hd =>
      have M : d < n -> yielded all a.tmps j = match F d with | .bool b => some b|_ => none := by
        intro hdn;have A : all[j]? = some g := by simpa using hgj
        have := x.get d (Nat.ne_of_lt (QJ hdn x.le));have hs := x.size;simp only[yielded, A, VN, hd];have e : a.tmps[d]? = some (F d) := by simp_all
        rw[e];cases F d<;>simp
      split at h
      · rename_i b hb
        have hF : CQ F d (.bool b) = F := by rw[<- hb]; exact cG F d
        split at h
        case h_2 => exact h.elim
        case h_1 hdn =>
        have V : d < n := by simp_all
        have M := M V;simp only[hb]at M
        cases z<;>cases b<;>simp only[EN, hF]at h<;>simp only[Region.wanted, L, M]<;>simp<;>first
          | exact run x h0 h K J
          | exact⟨λ_ _ => trivial, J _ _ (step x h0 h)⟩
      · rename_i vs hb
        have M : yielded all a.tmps j = none := by
          by_cases hdn : d < n
          · rw[M hdn]; simp only[hb]
          · have A : all[j]? = some g := by simpa using hgj
            have e : a.tmps[d]? = none := Jn (by rw[x.size]; exact Yi hdn);simp only[yielded, A, VN, hd, e]
        simp only[Region.wanted, L, M];simp;exact⟨λ_ _ => trivial, J _ _ (step x h0 h)⟩
      · exact h.elim
theorem bF{Q l:KS}{F o:Nat->Value}{p b:Nat->Bool}(q:∀G w,FI n G=FI n G->agree p F G->Q.nrm G w->agree b o G/\l.nrm G w)
  (r:∀i G w,agree p F G->Q.ext i G w->agree b o G/\l.ext i G w)(t:∀G w,agree p F G->Q.ret G w->agree b o G/\l.ret G w)
  (v:∀G c w,agree p F G->Q.pan G c w->agree b o G/\l.pan G c w):∀e a w,Q.lift n F p e a w->l.lift n o b e a w:=by
 intro e a w h;cases e<;>simp only[KS.lift]at h ⊢
 ·obtain⟨G,d,f,g⟩:=h;exact⟨G,d,q _ _ rfl f g⟩
 ·obtain⟨G,d,f,g⟩:=h;exact⟨G,d,r _ _ _ f g⟩
 ·obtain⟨G,d,f,g⟩:=h;exact⟨G,d,t _ _ f g⟩
 ·obtain⟨G,d,f,g⟩:=h;exact⟨G,d,v _ _ _ f g⟩
theorem W2{b:Frame}{a:Act}{k:List Item}{cs:List Frame}{c:Code}:step P (lone (b.atR a (.code (.scope c)::k)) cs w)=.next (lone (b.atR a (.code c::.inScope c::k)) cs w):=
 step_lone_go (by simp[stepG,stepG.exec,Frame.atR])
theorem zJW{b:Frame}{a:Act}{k:List Item}{cs:List Frame}{c:Code}:step P (lone (b.atR a (.inScope c::k)) cs w)=.next (lone (b.atR a k) cs w):=
 step_lone_go (by simp[stepG,stepG.exec,Frame.atR])
theorem UU(P:Program)(r:Option Nat)(m:Machine):m.fenced P (fw r):=fenced_wide P m
theorem zJ2{r:Option Nat}{c:Code}{Q:Exit->Act->World->Prop}{a:Act}(h:c.wpIn (fw r) 0 P (Exit.noGoto Q) a w):(Code.scope c).wpIn (fw r) 0 P Q a w:=by
 intro b k cs q hb x;obtain⟨e,f,g,o,d⟩:=h b (.inScope c::k) cs q hb x
 cases e with
 |normal=>exact⟨.normal,f,g,o,.head (UU P r _) W2 (StepsIn.trans d (.one (UU P r _) zJW))⟩
 |exit id =>
  exact⟨.exit id,f,g,o,λy t=>.head (UU P r _) W2 (d.1 y (by simp[exitTo,t])),
   λv t=>let ⟨p,z,A⟩:=d.2 v (by simp[exitTo,t]);⟨p,z,.head (UU P r _) W2 A⟩⟩
 |goto l=>exact o.elim
 |ret=>exact⟨_,f,g,o,.of_steps (.one (UU P r _) W2) d⟩
 |panic C=>exact⟨_,f,g,o,.of_steps (.one (UU P r _) W2) d⟩
 |outgrown=>exact⟨_,f,g,o,.of_steps (.one (UU P r _) W2) d⟩
theorem Ti(J:T.ok P=true):∀(c:Code) (Q:KS) (F:Nat->Value) (w:World),S P T n c Q F w->∀md:Option Nat,md.isSome=T.round->∀a,FI n F a->c.wpIn (fw md) 0 P (Q.lift n F (wr c)) a w:=by
 intro c
 induction c with
 |skip=>intro Q F w h md b a o;exact wpIn_skip ⟨F,o,λ_ _=>rfl,h⟩
 |label l=>intro Q F w h md b a o;exact wpIn_label ⟨F,o,λ_ _=>rfl,h⟩
 |ret=>intro Q F w h md b a o;exact wpIn_ret ⟨F,o,λ_ _=>rfl,h⟩
 |exit i=>intro Q F w h md b a o;exact wpIn_exit ⟨F,o,λ_ _=>rfl,h⟩
 |region i ops E =>
  intro Q F w h md b a o
  cases E with
  |false =>
   simp only[Dk,OM,Er,Df,Es,De,Nt,Nu,Ns,Dd,Dg,N6,DW,OE]at h;refine Jb ?_ (wpIn_region_list (vZ J b ops F Q.nrm Q.pan ops.toList (λ_=>false) F w a o (λ_ _=>rfl) h));intro e a' w' p;cases e<;>simp only[LQ]at p<;>simp only[KS.lift]
   ·simpa[wr]using p
   ·exact p
  |true=>simp only[Dk,OM,Er,Df,Es,De,Nt,Nu,Ns,Dd,Dg,N6,DW,OE]at h;rw[SH]at h;exact h md b a o
 |seq x y A C =>
  intro Q F w h md b a o;simp only[Dk,OM,Er,Df,Es,De,Nt,Nu,Ns,Dd,Dg,N6,DW,OE]at h;refine wpIn_seq (Jb ?_ (A _ F w h md b a o));intro e a' w' p;cases e<;>simp only[KS.lift,Exit.then]at p ⊢
  ·obtain⟨v,z,q,r⟩:=p;refine Jb ?_ (C _ v w' r md b a' z);refine bF ?_ ?_ ?_ ?_
   ·exact λG w _ f g=>⟨by have:=q.trans f;exact this,g⟩
   ·exact λi G w f g=>⟨by have:=q.trans f;exact this,g⟩
   ·exact λG w f g=>⟨by have:=q.trans f;exact this,g⟩
   ·exact λG c w f g=>⟨by have:=q.trans f;exact this,g⟩
  ·obtain⟨v,z,q,r⟩:=p;exact⟨v,z,q.mono (by intro t d;simp only[wr,QG]at d;exact d.1),r⟩
  ·obtain⟨v,z,q,r⟩:=p;exact⟨v,z,q.mono (by intro t d;simp only[wr,QG]at d;exact d.1),r⟩
  ·obtain⟨v,z,q,r⟩:=p;exact⟨v,z,q.mono (by intro t d;simp only[wr,QG]at d;exact d.1),r⟩
 |cond c x y A C =>
  intro Q F w h md b a o;simp only[Dk,OM,Er,Df,Es,De,Nt,Nu,Ns,Dd,Dg,N6,DW,OE]at h;split at h
  ·rename_i t d;have I:a.eval c=.bool t:=by rw[o.eval];exact d
   cases t with
   |true =>
    refine wpIn_cond_true I (Jb ?_ (A _ F w h md b a o));refine bF ?_ ?_ ?_ (λG c w f g=>⟨f.mono (by intro t d;simp only[wr,QG]at d;exact d.1),g⟩)
    ·exact λG w _ f g=>⟨f.mono (by intro t d;simp only[wr,QG]at d;exact d.1),g⟩
    ·exact λi G w f g=>⟨f.mono (by intro t d;simp only[wr,QG]at d;exact d.1),g⟩
    ·exact λG w f g=>⟨f.mono (by intro t d;simp only[wr,QG]at d;exact d.1),g⟩
   |false =>
    refine wpIn_cond_false I (Jb ?_ (C _ F w h md b a o));refine bF ?_ ?_ ?_ (λG c w f g=>⟨f.mono (by intro t d;simp only[wr,QG]at d;exact d.2),g⟩)
    ·exact λG w _ f g=>⟨f.mono (by intro t d;simp only[wr,QG]at d;exact d.2),g⟩
    ·exact λi G w f g=>⟨f.mono (by intro t d;simp only[wr,QG]at d;exact d.2),g⟩
    ·exact λG w f g=>⟨f.mono (by intro t d;simp only[wr,QG]at d;exact d.2),g⟩
  ·exact h.elim
 |block i c H =>
  intro Q F w h md b a o;simp only[Dk,OM,Er,Df,Es,De,Nt,Nu,Ns,Dd,Dg,N6,DW,OE]at h;refine wpIn_block (Jb ?_ (H _ F w h md b a o));intro e a' w' p;cases e<;>simp only[KS.lift,Exit.inBlock]at p ⊢
  ·exact p
  ·obtain⟨v,z,q,r⟩:=p;split at r
   ·rename_i hb;rw[if_pos (QD hb)];exact⟨v,z,q,r⟩
   ·rename_i j _ hb;rw[if_neg (λe=>by simp_all)];exact⟨v,z,q,r⟩
  ·exact p
  ·exact p
 |scope c H =>
  intro Q F w h md b a o;simp only[Dk,OM,Er,Df,Es,De,Nt,Nu,Ns,Dd,Dg,N6,DW,OE]at h;refine zJ2 (Jb ?_ (H _ F w h md b a o));intro e a' w' p;cases e<;>simp only[KS.lift,Exit.noGoto]at p ⊢<;>exact p
 |_=>intro Q F w h md b a o;simp only[Dk,OM,Er,Df,Es,De,Nt,Nu,Ns,Dd,Dg,N6,DW,OE]at h;rw[SH]at h;exact h md b a o
end
def FC (fn : Func) : Code := match fn.body with|some c => c|none => .refuse ""
structure I1 (P:Program) (t:TypeId) (a:Addr) (k:Value->Prop) (w:World):Prop where
 out:∃v,(loadVar t a).run P w=.ok v w/\k v
theorem kB(P:Program)(t:TypeId)(a:Addr)(k:Value->Prop)(w:World):I1 P t a k w↔(∃v,(loadVar t a).run P w=.ok v w/\k v):=⟨λh=>h.out,λh=>⟨h⟩⟩
def Ek (P:Program):List ResultVar->List Value->(Nat->Value)->(KW)->World->Prop
 |[],acc,_,R,w=>match acc with|[v]=>R v w|acc=>R (.tuple acc.toArray) w
 |.tmp t::r,acc,F,R,w=>Ek P r (acc++[ev F (.tmp t)]) F R w
 |.cell p t::r,acc,F,R,w=>match ev F (.tmp p) with
  |.pointer (some a)=>I1 P t a (λv=>Ek P r (acc++[v]) F R w) w
  |_=>False
structure Cb (P:Program) (rs:List ResultVar) (F:Nat->Value) (ds:List Deferred) (u:FrameMode) (R:KW) (pn:PW) (w:World):Prop where
 out:∀(fn:Func) (tmps:Array Value),fn.results.toList=rs->(∀t,tmps.getD t undef=ev F (.tmp t))->LeavesInM Fence.wide 0 P fn tmps (H3 R pn) ds u w
def Oy (P:Program) (rs:List ResultVar) (R:KW) (pn:PW) (F:Nat->Value) (w:World):Prop:=
 match FH (F 4294967296) with
 |[]=>Ek P rs [] F R w
 |d::ds=>Cb P rs F (d::ds) .returning R pn w
def Ho (P:Program) (rs:List ResultVar) (R:KW) (pn:PW) (F:Nat->Value) (c:List PanicEntry) (w:World):Prop:=
 match FH (F 4294967296) with
 |[]=>pn c w
 |d::ds=>Cb P rs F (d::ds) (.panicking c) R pn w
def MI (P:Program) (rs:List ResultVar) (R:KW) (pn:PW):KS where
 nrm:=λF w=>Oy P rs R pn F w
 ext:=λ_ _ _=>False
 ret:=λF w=>Oy P rs R pn F w
 pan:=λF c w=>Ho P rs R pn F c w
section
variable {P:Program}
def GY (F:Nat->Value) (x:ResultVar):Sem Value:=
 match x with
 |.tmp t=>pure (ev F (.tmp t))
 |.cell a t=>do loadVar t (<-asAddr (ev F (.tmp a)))
theorem gI(F:Nat->Value)(R:KW)(w:World):∀(l:List ResultVar) (b:List Value),
  Ek P l b F R w->∃vs,(l.mapM (GY F)).run P w=.ok vs w /\
   (match b++vs with|[v]=>R v w|b=>R (.tuple b.toArray) w)
 |[],b,h=>⟨[],by simp,by simpa[Ek]using h⟩
 |.tmp t::r,b,h=>by
  simp only[Ek]at h;obtain⟨vs,c,d⟩:=gI F R w r _ h;refine⟨ev F (.tmp t)::vs,?_,by simpa using d⟩;simp only[List.mapM_cons,Qo,c,GY,Jd,Qh]
 |.cell p t::r,b,h=>by
  simp only[Ek]at h;split at h
  ·rename_i a e;rw[kB]at h;obtain⟨v,f,h⟩:=h;obtain⟨vs,c,d⟩:=gI F R w r _ h;refine⟨v::vs,?_,by simpa using d⟩;simp only[List.mapM_cons,Qo,c,GY,Jd,Qh,e,asAddr,f]
  ·exact h.elim
theorem zOl{tmps:Array Value}{F:Nat->Value}(b:∀t,tmps.getD t undef=ev F (.tmp t))(x:ResultVar):(match x with
  |.tmp t=>pure (tmps.getD t undef)
  |.cell a t=>do loadVar t (<-asAddr (tmps.getD a undef)):Sem Value)=GY F x:=by
 cases x<;>simp only[GY,b]
theorem sJ(fn:Func)(tmps:Array Value)(F:Nat->Value)(R:KW)(w:World)(f:∀t,tmps.getD t undef=ev F (.tmp t))(h:Ek P fn.results.toList [] F R w):
  ∃v,(results fn tmps).run P w=.ok v w/\R v w:=by
 obtain⟨vs,g,c⟩:=gI F R w _ _ h
 have d:(fn.results.mapM (GY F)).run P w=.ok vs.toArray w:=by
  rw[Array.mapM_eq_mapM_toList,Sem.run_map,g];rfl
 have e:results fn tmps=(do let vs <-fn.results.mapM (GY F);pure (if h:vs.size=1 then vs[0] else .tuple vs)):=by
  have l:(λx:ResultVar=>(match x with
   |.tmp t=>pure (tmps.getD t undef)
   |.cell a t=>do loadVar t (<-asAddr (tmps.getD a undef)):Sem Value))=GY F:=funext (zOl f)
  rw[<-l];unfold results;congr 1
 rw[e,Qo,d];simp only[Qh,Je]at c ⊢
 match vs,c with
 |[],c=>exact⟨_,by simp,c⟩
 |[v],c=>exact⟨v,by simp,c⟩
 |a::b::r,c=>exact⟨_,by simp,c⟩
theorem mE(l:List Value)(t:Nat):KN l t=(l[t]?).getD undef:=by
 induction l generalizing t with
 |nil=>simp[KN]
 |cons x r b=>cases t<;>simp[KN,b]
theorem vO(args:Array Value)(n:Nat)(e:args.size<=n)(b:n<=4294967296):FI n (KN args.toList) { tmps:=args++Array.replicate (n - args.size) undef,defers:=[] }:=by
 refine⟨by simp;omega,b,?_,?_⟩
 ·rw[mE,Jg (by simp;omega)];rfl
 intro t _;rw[mE];simp only[Jr,Array.getElem?_append];by_cases h:t<args.size
 ·simp[h]
 ·have c:args.toList[t]? = none:=by simp;omega
  simp only[h,if_false,c,JQ];by_cases d:t - args.size<n - args.size
  ·simp[d]
  ·rw[Jn (by simp;omega)];rfl
theorem FI.ev_get{F:Nat->Value}{a:Act}(h:FI n F a)(t:Nat):a.tmps.getD t undef=ev F (.tmp t):=by
 rw[<-h.eval];rfl
theorem pC{T:Ce}(r:T.ok P=true)(t:T.round=false){f:FuncId}{fn:Func}{args:Array Value}{R:KW}{o:PW}
  (x:P.funcs[f]? = some fn)(y:fn.ntmps=n)(hb:fn.body.isSome=true)(z:Nat.ble args.size n=true)(A:Nat.ble n 4294967296=true)
  (h:S P T n (FC fn) (MI P fn.results.toList R o) (KN args.toList) w):Calls P f args w (H3 R o):=by
 subst y;obtain⟨c,q⟩:=Xx.1 hb;have p:FC fn=c:=by simp[FC,q]
 rw[p]at h;rw[<-callsIn_wide (n:=0)];refine callsIn_of_wp_marks x q trivial (Jb ?_ (Ti r c _ _ w h none (by rw[t];rfl) _ (vO args fn.ntmps (Vf z) (Vf A))))
 have fin:∀{g:Nat->Value} {a:Act} {w':World},FI fn.ntmps g a->Oy P fn.results.toList R o g w'->LeavesInM Fence.wide 0 P fn a.tmps (H3 R o) a.defers .returning w':=by
  intro g a w' d b;unfold Oy at b;rw[<-d.defers]at b;split at b
  ·rename_i hd;obtain⟨v,C,h5⟩:=sJ fn a.tmps g R w' d.ev_get b;rw[hd];exact⟨v,C,h5⟩
  ·rename_i hd;rw[hd];exact b.out fn a.tmps rfl d.ev_get
 intro e a w' l;cases e<;>simp only[KS.lift,MI]at l<;>simp only[bodyPostM]
 ·obtain⟨g,d,_,b⟩:=l;exact fin d b
 ·obtain⟨g,_,_,b⟩:=l;exact b
 ·obtain⟨g,d,_,b⟩:=l;exact fin d b
 ·obtain⟨g,d,_,b⟩:=l;unfold Ho at b;rw[<-d.defers]at b;split at b
  ·rename_i hd;rw[hd];exact b
  ·rename_i hd;rw[hd];exact b.out fn a.tmps rfl d.ev_get
theorem sO{b:List ResultVar}{F:Nat->Value}{D:Nat}{args:Array Value}{ds:List Deferred}{u:FrameMode}{R:KW}{c:PW}(d:u≠.run)(e:w.heap[D]? = some (.deferred (some [])))
  (h:Cb P b F ds u R c (w.putObj D (.deferred none))):Cb P b F ({ target:=.collected D,args }::ds) u R c w:=
 ⟨λfn tmps f g=>⟨d,.inl ⟨D,_,rfl,run_takeDeferred e,h.out fn tmps f g⟩⟩⟩
theorem Cg{b:List ResultVar}{F:Nat->Value}{R:KW}{c:PW}(h:Ek P b [] F R w):Cb P b F [] .returning R c w:=
 ⟨λfn tmps d e=>by subst d;obtain⟨v,f,h5⟩:=sJ fn tmps F R w e h;exact⟨v,f,h5⟩⟩
theorem Sp.enter{T:Ce}(c:T.ok P=true)(d:T.round=false){f:FuncId}{fn:Func}{args:Array Value}{R:KW}
  (b : P.funcs[f]? = some fn)(g : fn.ntmps = n)(hb : fn.body.isSome = true)(l : (fn.name == "runtime.NumGoroutine") = false)(o : Nat.ble args.size n = true)(p : Nat.ble n 4294967296 = true)
  (h:S P T n (FC fn) (MI P fn.results.toList R (λ_ _=>False)) (KN args.toList) w):Sp P f args w R:=
 ⟨⟨fn,b,hb,l⟩,(pC c d b g hb o p h).mono λe w' q=>by cases e<;>exact q⟩
theorem Sp.mono{f:FuncId}{args:Array Value}{R R':KW}(h:Sp P f args w R)(c:∀v w',R v w'->R' v w'):Sp P f args w R':=
 ⟨h.can,h.calls.mono λe w' b=>by cases e<;>first|exact c _ _ b|exact b⟩
theorem ite{p A B:Prop}(h:p->A)(b:¬p->B):LU p A B:=⟨h,b⟩
theorem AA{f:FuncId}{args:Array Value}{k:KW}{c:PW}{R:KW}
  (h:Sp P f args w R)(d:∀v w',R v w'->k v w'):Gz P f args k c w:=by
 rw[Us];exact⟨h.can,h.calls.mono λe w' b=>by cases e<;>first|exact d _ _ b|exact b.elim⟩
theorem TR{x:Int}(h0:-9223372036854775808<=x)(b:x<=9223372036854775807):IntKind.i64.wrap x=x:=IntWalk.i64_in x (by omega)
theorem kY{x:Int}{k:KW}(h0:-9223372036854775808<=x/\x<=9223372036854775807)(b:k (.int .i64 x) w):Ob .i64 x k w:=by
 rw[ZX];rw[TR h0.1 h0.2];exact b
theorem rA {k:KW}{w:World}{x:Int}(hk:k (.int .i64 x) w)(h0:-9223372036854775808<=x/\x<=9223372036854775807:=by omega):Ob .i64 x k w:=kY h0 hk
theorem iF {p A B:Prop}(h:¬p)(k:B):LU p A B:=⟨λx=>absurd x h,λ_=>k⟩
theorem iT {p A B:Prop}(h:p)(k:A):LU p A B:=⟨λ_=>k,λx=>absurd h x⟩
theorem nf:¬False:=id
end
def isRec:Obj->Bool
 |.loop _=>true
 |.deferred _=>true
 |_=>false
structure Fr (D:Nat->Prop) (w w':World):Prop where
 os:w'.os=w.os
 tape:w'.tape=w.tape
 output:w'.output=w.output
 size:w.heap.size<=w'.heap.size
 block:∀b,b<w.heap.size->¬D b->w'.heap[b]? = w.heap[b]?
 nc:∀(b:Nat) (o:Obj),w.heap[b]? = some o->isRec o=true->w'.heap[b]? = some o
abbrev Bp (w w':World):Prop:=Fr (λ_=>False) w w'
theorem Ad{b:Nat}{o:Obj}(hb:w.heap[b]? = some o):b<w.heap.size:=by
 rcases QH b w.heap.size with c|c
 ·exact c
 ·rw[Jn c]at hb;cases hb
theorem Fr.refl(D:Nat->Prop)(w:World):Fr D w w:=⟨rfl,rfl,rfl,Qe _,λ_ _ _=>rfl,λ_ _ h _=>h⟩
theorem Fr.trans{a b c:World}(h:Fr D a b)(k:Fr D b c):Fr D a c:=
 ⟨k.os.trans h.os,k.tape.trans h.tape,k.output.trans h.output,Qw h.size k.size,λi hi hd=>(k.block i (QJ hi h.size) hd).trans (h.block i hi hd),λi o hi d=>k.nc i o (h.nc i o hi d) d⟩
theorem Fr.mono{c:Nat->Prop}{a b:World}(h:Fr D a b)(hd:∀i,i<a.heap.size->D i->c i):Fr c a b:=
 ⟨h.os,h.tape,h.output,h.size,λi hi d=>h.block i hi λe=>d (hd i hi e),h.nc⟩
theorem Fr.fr{a b:World}(h:Bp a b):Fr D a b:=h.mono λ_ _ h=>h.elim
theorem Fr.st{a b c:World}(h:Bp a b)(k:Fr D b c)(hd:∀i,D i->a.heap.size<=i):Bp a c:=
 ⟨k.os.trans h.os,k.tape.trans h.tape,k.output.trans h.output,Qw h.size k.size,λi hi _=>(k.block i (QJ hi h.size) λe=>by have:=hd i e;omega).trans (h.block i hi id),λi o hi d=>k.nc i o (h.nc i o hi d) d⟩
theorem Bp.t{a b c:World}(h:Bp a b)(k:Bp b c):Bp a c:=Fr.trans h k
class AC (a:outParam World) (c:World):Prop where
 e:Bp a c
class Gl (u b:outParam World) (c:World):Prop where
 e:Fr (λi=>u.heap.size<=i) b c
class Le (a b:World):Prop where
 e:Bp a b
instance Le.refl (a:World):Le a a:=⟨Fr.refl _ a⟩
instance Le.step {a b c:World} [k:AC b c] [h:Le a b]:Le a c:=⟨h.e.t k.e⟩
instance Le.fresh {a b c u:World} [k:Gl u b c] [h:Le a b] [g:Le a u]:Le a c:=⟨Fr.st h.e k.e λ_ hi=>Qw g.e.size hi⟩
theorem stp{a b:World}[h:Le a b]:AC a b:=⟨h.e⟩
theorem Le.size{a b:World}[h:Le a b]:a.heap.size<=b.heap.size:=h.e.size
theorem Fr.stw{b c:World}(h:Fr D b c)(hd:∀i,D i->u.heap.size<=i):Gl u b c:=⟨h.mono λi _ hi=>hd i hi⟩
theorem uP{a b:World}[h:Le a b]{o:Obj}(hb:a.heap[i]? = some o):b.heap[i]? = some o:=by
 rw[h.e.block i (Ad hb) id];exact hb
theorem Bp.alloc(w:World)(o:Obj):Bp w (w.alloc o):=⟨rfl,rfl,rfl,by simp,λb hb _=>VD w o b hb,λb o' hb _=>(VD w o b (Ad hb)).trans hb⟩
theorem Bp.drew(w:World):Bp w { w with drawn:=w.drawn+1 }:=⟨rfl,rfl,rfl,Qe _,λ_ _ _=>rfl,λ_ _ h _=>h⟩
theorem Fr.grown{row:Option Nat}(h:w.grownBy w' row)(d:∀r o,row=some r->w.heap[r]? = some o->isRec o=false):Fr (λb=>some b=row) w w':=
 ⟨h.os,h.tape,h.output,h.size,λb hb f=>h.block b hb f,λb o hb c=>(h.block b (Ad hb) λe=>by have:=d b o e.symm hb;rw[this]at c;cases c).trans hb⟩
theorem Fr.below(h:Fr D w w')(hd:∀b,b<w.heap.size->¬D b):Go.RowKit.Below w.heap.size w w':=⟨h.os,h.tape,h.output,h.size,λb hb=>h.block b hb (hd b hb)⟩
theorem Bp.below(h:Bp w w'):Go.RowKit.Below w.heap.size w w':=Fr.below h λ_ _ h=>h
theorem Fr.blk(h:Fr D w w'){b:Nat}{o:Obj}(hb:w.heap[b]? = some o)(hd:¬D b):w'.heap[b]? = some o:=by
 have d:b<w.heap.size:=by
  rcases QH b w.heap.size with c|c
  ·exact c
  ·rw[Jn c]at hb;cases hb
 rw[h.block b d hd];exact hb
theorem Bp.blk(h:Bp w w'){b:Nat}{o:Obj}(hb:w.heap[b]? = some o):w'.heap[b]? = some o:=Fr.blk h hb id
theorem Fr.cell(h:Fr D w w'){a:Addr}{v:Value}(b:w.cell? a=some v)(hd:¬D a.block):w'.cell? a=some v:=by
 rw[World.cell?_of_block (w:=w) (h.block a.block (XA w a b) hd)];exact b
theorem Bp.cell(h:Bp w w'){a:Addr}{v:Value}(b:w.cell? a=some v):w'.cell? a=some v:=Fr.cell h b id
def At (w:World) (b o:Nat) (cs:List Value):Prop:=∀j v,cs[j]? = some v->w.cell? ⟨b,o+j,none⟩=some v
theorem At.fr{b o:Nat}{cs:List Value}(h:At w b o cs)(c:Fr D w w')(hd:¬D b):At w' b o cs:=λj v d=>c.cell (h j v d) hd
theorem At.ext{b o:Nat}{cs:List Value}(h:At w b o cs)(c:Bp w w'):At w' b o cs:=At.fr h c id
theorem At.up[h:Le w w']{b o:Nat}{cs:List Value}(a:At w b o cs):At w' b o cs:=a.ext h.e
theorem At.cell{b o:Nat}{cs:List Value}(h:At w b o cs)(j:Nat){v:Value}(c:cs[j]? = some v):w.cell? ⟨b,o+j,none⟩=some v:=h j v c
theorem At.cell0{b o:Nat}{cs:List Value}(h:At w b o cs){v:Value}(c:cs[0]? = some v):w.cell? ⟨b,o,none⟩=some v:=h 0 v c
theorem At.sub{b o:Nat}{cs:List Value}(h:At w b o cs)(i n:Nat):At w b (o+i) ((cs.drop i).take n):=by simp_all[At,Vh,Nat.add_assoc]
theorem At.blk{b:Nat}{cs:Array Value}{e:TypeId}{fz:Nat×Nat}(h:w.heap[b]? = some (.cells cs e fz)):At w b 0 cs.toList:=by
 intro j v c;rw[cell_of_row w b (0+j) cs e fz h];simpa using c
def look:List (Nat×Value)->Nat->Option Value
 |[],_=>none
 |(s,v)::r,t=>bif Nat.beq s t then some v else look r t
def GS:List Nat->Nat->Bool
 |[],_=>false
 |s::r,t=>Nat.beq s t || GS r t
def IH (m:Nat) (keep:List Nat) (sv:List (Nat×Value)) (g F:Nat->Value):Nat->Value:=λt =>
 match look sv t with
 |some v=>v
 |none=>bif Nat.beq t 4294967296 || xor (Nat.blt t m) (GS keep t) then F t else g t
def By (F:Nat->Value):List Nat->List Value
 |[]=>[]
 |s::r=>F s::By F r
def I7:List Nat->List Value->List (Nat×Value)
 |s::r,v::vs=>(s,v)::I7 r vs
 |_,_=>[]
def nodupB:List Nat->Bool
 |[]=>true
 |s::r=>!GS r s && nodupB r
def Uv (m:Nat) (keep slots:List Nat) (d:Nat):Bool:=GS slots d || !(Nat.beq d 4294967296 || xor (Nat.blt d m) (GS keep d))
def bE (m:Nat) (keep slots:List Nat):List Oper->Bool
 |[]=>true
 |o::r=>(match o.dst with|some d=>Uv m keep slots d|none=>true) && (bif MO o.op then Uv m keep slots 4294967296 else true) && bE m keep slots r
def PG (m:Nat) (keep slots:List Nat):Code->Bool
 |.region _ ops _=>bE m keep slots ops.toList
 |.seq a b=>PG m keep slots a && PG m keep slots b
 |.cond _ a b=>PG m keep slots a && PG m keep slots b
 |.block _ c=>PG m keep slots c
 |.loop c=>PG m keep slots c
 |.scope c=>PG m keep slots c
 |.rangeFunc ..=>Uv m keep slots 4294967296
 |_=>true
def Tb (c:Code):List Nat->Bool
 |[]=>true
 |s::r=>wr c s && Tb c r
def Kb (m:Nat) (keep slots:List Nat) (c:Code):Bool:=PG m keep slots c && nodupB slots && Tb c slots && !GS slots 4294967296
theorem Rg{keep slots:List Nat}(l:List Oper)(h:bE m keep slots l=true)(t:Nat)(b:HM l t=true):Uv m keep slots t=true:=by
 induction l with
 |nil=>simp[HM]at b
 |cons o r e =>
  simp only[bE,Qz]at h;simp only[HM,VV]at b;rcases b with b|b
  ·unfold PD at b;rw[VV,Qz]at b;rcases b with b|b
   ·unfold Nv at b;have c:=h.1.1;split at b
    ·rename_i d hd;simp only[hd]at c;rw[QD b];exact c
    ·cases b
   ·have c:=h.1.2;rw[b.1,cond_true]at c;rw[QD b.2];exact c
  ·exact e h.2 b
theorem pP{keep slots:List Nat}:∀(c:Code),PG m keep slots c=true->∀t,wr c t=true->Uv m keep slots t=true:=by
 intro c
 induction c with
 |region i ops d=>intro h t e;exact Rg _ h t e
 |seq a b g l=>intro h t e;simp only[PG,Qz]at h;simp only[wr,VV]at e;exact e.elim (g h.1 t) (l h.2 t)
 |cond x a b g l=>intro h t e;simp only[PG,Qz]at h;simp only[wr,VV]at e;exact e.elim (g h.1 t) (l h.2 t)
 |block i c o=>intro h t e;exact o h t e
 |loop c o=>intro h t e;exact o h t e
 |scope c o=>intro h t e;exact o h t e
 |rangeFunc f ps a b=>intro h t e;rw[QD e];exact h
 |_=>intro h t e;simp[wr]at e
theorem mO(slots:List Nat)(F:Nat->Value)(t:Nat):look (I7 slots (By F slots)) t=bif GS slots t then some (F t) else none:=by
 induction slots with
 |nil=>rfl
 |cons s r b =>
  simp only[By,I7,look,GS]
  cases h:Nat.beq s t with
  |true=>rw[QD h];simp
  |false=>simp[b]
section
variable {P:Program} {T:Ce} {n:Nat}
theorem lG{keep slots:List Nat}{c:Code}(b:Kb m keep slots c=true){F G:Nat->Value}(h:agree (wr c) F G):
  IH m keep (I7 slots (By G slots)) G F=G:=by
 simp only[Kb,Qz]at b;funext t;unfold IH;rw[mO]
 cases e:GS slots t with
 |true=>rfl
 |false =>
  simp only[cond_false]
  cases f:(Nat.beq t 4294967296 || xor (Nat.blt t m) (GS keep t)) with
  |false=>rfl
  |true =>
   simp only[cond_true]
   cases d:wr c t with
   |false=>exact(h t d).symm
   |true =>
    have:=pP c b.1.1.1 t d;simp only[Uv,e,Bool.false_or,f]at this;cases this
theorem ML(U:T.ok P=true)(m:Nat)(keep slots:List Nat)(I:List Value->World->Prop)(J:List Value->World->Nat){body:Code}{Q:KS}{F:Nat->Value}
  (x:Kb m keep slots body=true)(h0:I (By F slots) w)
  (V:∀vs g w,vs.length=slots.length->I vs w->S P T n body
   { Q with nrm:=λR w'=>I (By R slots) w'/\J (By R slots) w'<J vs w } (IH m keep (I7 slots vs) g F) w):BI P T n (.loop body) Q F w:=by
 rw[SH];intro md K a W;have d:=x;simp only[Kb,Qz,VJ]at d
 have f:∀(A B:Nat->Value),(∀t,t≠4294967296->A t=B t)->By A slots=By B slots:=by
  intro A B L
  have:∀l:List Nat,GS l 4294967296=false->By A l=By B l:=by
   intro l
   induction l with
   |nil=>intro _;rfl
   |cons s r X =>
    intro h;simp only[GS,QG]at h;simp only[By];rw[X h.2,L s λe=>by subst e;simp at h]
  exact this slots d.2
 have y:∀(G:Nat->Value),agree (wr body) F G->IH m keep (I7 slots (By G slots)) G F=G:=λG H=>lG x H;refine wpIn_loop (λa' w'=>∃G,FI n G a'/\agree (wr body) F G/\I (By G slots) w') (λa' w'=>J (By (λt=>a'.tmps.getD t undef) slots) w') ⟨F,W,λ_ _=>rfl,h0⟩ ?_;rintro a' w' ⟨G,H,c,Y⟩
 have z:(By G slots).length=slots.length:=by
  have:∀l,(By G l).length=l.length:=by intro l;induction l<;>simp_all[By]
  exact this slots
 have hb:=V (By G slots) G w' z Y;rw[y G c]at hb;have M:By (λt=>a'.tmps.getD t undef) slots=By G slots:=f _ _ H.get;refine Jb ?_ (Ti U body _ _ _ hb md K a' H);intro e O Z C;cases e<;>simp only[KS.lift,Exit.then]at C ⊢
 ·obtain⟨o,p,q,v,h4⟩:=C;have E:By (λt=>O.tmps.getD t undef) slots=By o slots:=f _ _ p.get;refine⟨⟨o,p,λt b=>by rw[q t b,c t b],v⟩,?_⟩;rw[M,E];exact h4
 ·obtain⟨o,p,q,v⟩:=C;exact⟨o,p,λt b=>by simp only[wr]at b;rw[q t b,c t b],v⟩
 ·obtain⟨o,p,q,v⟩:=C;exact⟨o,p,λt b=>by simp only[wr]at b;rw[q t b,c t b],v⟩
 ·obtain⟨o,p,q,v⟩:=C;exact⟨o,p,λt b=>by simp only[wr]at b;rw[q t b,c t b],v⟩
theorem GV(l:T.ok P=true)(m:Nat)(keep:List Nat)(c:Nat)(I:KW)(d:Value->World->Nat){body:Code}{Q:KS}{F:Nat->Value}
  (e:Kb m keep [c] body=true)(h0:I (F c) w)
  (o:∀b g w,I b w->S P T n body { Q with nrm:=λh w'=>I (h c) w'/\d (h c) w'<d b w } (IH m keep [(c,b)] g F) w):BI P T n (.loop body) Q F w:=
 ML l m keep [c] (λvs w=>match vs with|[b]=>I b w|_=>False) (λvs w=>match vs with|[b]=>d b w|_=>0) e h0
  λvs g w _ f=>match vs,f with|[b],f=>o b g w f
theorem HG(p:T.ok P=true)(m:Nat)(keep:List Nat)(d e:Nat)(I:Value->KW)(h:Value->Value->World->Nat){body:Code}{Q:KS}{F:Nat->Value}
  (l:Kb m keep [d,e] body=true)(h0:I (F d) (F e) w)
  (q:∀b c g w,I b c w->S P T n body { Q with nrm:=λf w'=>I (f d) (f e) w'/\h (f d) (f e) w'<h b c w } (IH m keep [(d,b),(e,c)] g F) w):BI P T n (.loop body) Q F w:=
 ML p m keep [d,e] (λvs w=>match vs with|[b,c]=>I b c w|_=>False) (λvs w=>match vs with|[b,c]=>h b c w|_=>0) l h0
  λvs g w _ o=>match vs,o with|[b,c],o=>q b c g w o
theorem Tp(r:T.ok P=true)(m:Nat)(keep:List Nat)(e f h:Nat)(I:Value->Value->KW)(o:Value->Value->Value->World->Nat){body:Code}{Q:KS}{F:Nat->Value}
  (p:Kb m keep [e,f,h] body=true)(h0:I (F e) (F f) (F h) w)
  (t:∀b c d g w,I b c d w->S P T n body { Q with nrm:=λl w'=>I (l e) (l f) (l h) w'/\o (l e) (l f) (l h) w'<o b c d w } (IH m keep [(e,b),(f,c),(h,d)] g F) w):BI P T n (.loop body) Q F w:=
 ML r m keep [e,f,h] (λvs w=>match vs with|[b,c,d]=>I b c d w|_=>False) (λvs w=>match vs with|[b,c,d]=>o b c d w|_=>0) p h0
  λvs g w _ q=>match vs,q with|[b,c,d],q=>t b c d g w q
end
def UO (P:Program) (t:TypeId):Bool:=match P.underlying t with|some (.struct _)=>false|some (.array _ _)=>false|some _=>true|none=>false
def WY (P:Program) (t n:Nat):Bool:=(match P.underlying t with|some (.struct _)=>true|some (.array _ _)=>true|_=>false) && (match P.info? t with|some i=>Nat.beq i.size n|none=>false)
class One (P:Program) (t:TypeId):Prop where
 h:UO P t=true:=by kernel_rfl
class FZ (P:Program) (t:TypeId) (n:outParam Nat):Prop where
 h:WY P t n=true:=by kernel_rfl
class DQ (P:Program) (t:TypeId) (e:outParam TypeId):Prop where
 h:P.underlying t=some (.slice e):=by kernel_rfl
class AX (P:Program) (e:TypeId) (z:outParam Value) (sz bytes:outParam Nat):Prop where
 h:(P.info? e).map (λi=>(i.zero,i.size,i.bytes))=some (some z,sz,bytes):=by kernel_rfl
section
variable {P:Program} {k:KW} {pn:PW} {w:World}
theorem AI.of{s:Sem Value}{v:Value}(h:s.run P w=.ok v w')(b:k v w'):AI P s k pn w:=by rw[YU];rw[h];exact b
theorem Ed.of{s:Sem Unit}(h:s.run P w=.ok () w')(b:k undef w'):Ed P s k pn w:=by rw[bB];rw[h];exact b
theorem mA{t:TypeId}(h:UO P t=true)(w:World):(isAgg t).run P w=.ok false w:=by
 unfold UO at h;simp only[isAgg,underlying,Qo,run_program,Qh]
 cases hd:P.underlying t with
 |none=>rw[hd]at h;cases h
 |some d =>
  rw[hd]at h;cases d<;>first|rfl|cases h
end
theorem Oj(b o d:Nat):(⟨b,o,none⟩:Addr).add d=⟨b,o+d,none⟩:=by
 unfold Addr.add;split<;>simp_all
section
variable {P:Program} {k:KW} {pn:PW} {w:World}
theorem Zy{t:TypeId}(b:One P t){a:Addr}{v:Value}(h:w.cell? a=some v):(loadVar t a).run P w=.ok v w:=by
 simp only[loadVar,Qo,mA b.h,Qh,Jt,if_false];simp[load,Sem.run,h]
theorem gM{t:Nat}(h:WY P t n=true):(isAgg t).run P w=.ok true w/\(sizeOf t).run P w=.ok n w:=by
 unfold WY at h;rw[Qz]at h;obtain⟨d,c⟩:=h;constructor
 ·split at d
  ·rename_i fs b;simp only[isAgg,underlying,Qo,run_program,Qh,b,Jd]
  ·rename_i x y b;simp only[isAgg,underlying,Qo,run_program,Qh,b,Jd]
  ·cases d
 ·split at c
  ·rename_i i hi;simp only[sizeOf,typeInfo,Qo,run_program,Qh,hi,Jd];rw[QD c]
  ·cases c
theorem kU{t:Nat}(c:FZ P t n){b o:Nat}{cs:List Value}(h:At w b o cs)(d:cs.length=n):(loadVar t ⟨b,o,none⟩).run P w=.ok (.agg cs.toArray) w:=by
 obtain⟨e,f⟩:=gM (w:=w) c.h;simp only[loadVar,Qo,e,Qh,if_true,f];rw[<-d,run_loadCells_list (P:=P) (w:=w) ⟨b,o,none⟩ cs (λj v g=>by rw[Oj];exact h j v g)];rfl
theorem AF{t:TypeId}[c:One P t]{b o:Nat}{v:Value}(h:w.cell? ⟨b,o,none⟩=some v)(d:k v w):AI P (Instr.loadAt t (.pointer (some ⟨b,o,none⟩))) k pn w:=
 AI.of (v:=v) (w':=w) (by simp[Instr.loadAt,Instr.sureAddr,Zy c h]) d
theorem Ai{t:Nat}[c:FZ P t n]{b o:Nat}{cs:List Value}(h:At w b o cs)(d:cs.length=n)(e:k (.agg cs.toArray) w):AI P (Instr.loadAt t (.pointer (some ⟨b,o,none⟩))) k pn w:=
 AI.of (v:=.agg cs.toArray) (w':=w) (by simp[Instr.loadAt,Instr.sureAddr,kU c h d]) e
theorem Yp{t:TypeId}[c:One P t]{b o:Nat}{v:Value}{k:Value->Prop}(h:w.cell? ⟨b,o,none⟩=some v)(d:k v):I1 P t ⟨b,o,none⟩ k w:=by
 rw[kB];exact⟨v,Zy c h,d⟩
theorem Rm{t:Nat}[c:FZ P t n]{b o:Nat}{cs:List Value}{k:Value->Prop}(h:At w b o cs)(d:cs.length=n)(e:k (.agg cs.toArray)):I1 P t ⟨b,o,none⟩ k w:=by
 rw[kB];exact⟨_,kU c h d,e⟩
class Lk (w:outParam World) (w':World) (b:outParam Nat) (cs:outParam (Array Value)) (e:outParam TypeId):Prop where
 lo:w.heap.size<=b
 blk:w'.heap[b]? = some (.cells cs e (0,0))
 ext:Bp w w'
theorem Lk.mk'(w:World)(cs:Array Value)(e:TypeId):Lk w (w.alloc (.cells cs e)) w.heap.size cs e:=⟨Qe _,heap_alloc_new w _,Bp.alloc w _⟩
instance Lk.stp {w w':World} {b:Nat} {cs:Array Value} {e:TypeId} [n:Lk w w' b cs e]:AC w w':=⟨n.ext⟩
theorem aH{e:TypeId}{v:Value}(c:∀b w',Lk w w' b v.cells e->k (.pointer (some ⟨b,0,none⟩)) w'):AI P (Instr.box e v) k pn w:=
 AI.of (v:=.pointer (some ⟨w.heap.size,0,none⟩)) (w':=w.alloc (.cells v.cells e)) (by rfl) (c _ _ (Lk.mk' w v.cells e))
theorem Wi{e:TypeId}{z:Value}{sz c:Nat}[d:AX P e z sz c](f:∀b w',Lk w w' b z.cells e->k (.pointer (some ⟨b,0,none⟩)) w'):AI P (Instr.alloc e true (.tuple #[])) k pn w:=by
 obtain⟨i,hi,g,_,_⟩:=info_parts d.h;exact AI.of (v:=.pointer (some ⟨w.heap.size,0,none⟩)) (w':=w.alloc (.cells z.cells e)) (by simp[Instr.alloc,zeroValue,typeInfo,hi,g,newVar,newRow]) (f _ _ (Lk.mk' w z.cells e))
theorem YO{t e:TypeId}{z:Value}{sz d:Nat}(f:DQ P t e)(g:AX P e z sz d){b o c:Nat}{i:Int}(h0:0<=i)(l:i<n)(w:World):
  (Instr.indexAt t (.slice (some ⟨b,o,none⟩) n c) (.int .i64 i)).run P w=.ok (.pointer (some ⟨b,o+i.toNat*sz,none⟩)) w:=by
 obtain⟨j,p,_,q,_⟩:=info_parts g.h;simp[Instr.indexAt,asIntOf,underlying,f.h,sizeOf,typeInfo,p,q,h0,l,Oj]
end
end Go.W
set_option linter.unusedSimpArgs false
namespace Go.W
open Go
variable {B N i j k m n:Nat} {D:Nat -> Prop} {P:Program} {a a':OA} {s:U8} {u u' w w':World}
structure Ar (P:Program) (s:Sem Value) (D:Nat->Prop) (k:Value->Prop) (w:World):Prop where
 out:∃v,(∀w',Fr D w w'->s.run P w'=.ok v w')/\k v
theorem Iv(P:Program)(s:Sem Value)(D:Nat->Prop)(k:Value->Prop)(w:World):Ar P s D k w↔(∃v,(∀w',Fr D w w'->s.run P w'=.ok v w')/\k v):=⟨λh=>h.out,λh=>⟨h⟩⟩
def Ez (o:Oper):Bool:=
 match o.op with
 |.move _ | .assign _ | .pick .. | .binOp .. | .unOp .. | .fieldAddr .. | .extract .. | .makeFunc .. | .load .. | .indexAddr .. | .index .. | .slice .. | .build .. | .lookup .. | .convert .. | .field .. | .makeInterface .. | .typeAssert .. | .nilCheck ..=>true
 |.call { callee:=.builtin b,.. }=>match b with | .len | .max | .min | .cap=>true|_=>false
 |_=>false
def HF (P:Program) (T:Ce) (D:Nat->Prop) (o:Oper) (F:Nat->Value) (k:Value->Prop) (w:World):Prop:=
 match o.op with
 |.move x | .assign x=>k (ev F x)
 |.pick c a b=>MU (ev F c) (ev F a) (ev F b) (λv _=>k v) w
 |.binOp op t x y _=>match ev F x,ev F y with
  |.int kx m,.int ky n=>bif HL kx ky then
    match op with
    |.add=>Ob kx (m+n) (λv _=>k v) w
    |.sub=>Ob kx (m - n) (λv _=>k v) w
    |.mul=>Ob kx (m*n) (λv _=>k v) w
    |.quo=>Sj kx m n (λv _=>k v) w
    |.rem=>PC kx m n (λv _=>k v) w
    |op=>Nc op m n (λv _=>k v) False w
   else False
  |a,b=>Ar P (do eqGuard op t x y a b;binOp op t a b) D k w
 |.unOp op _ x=>match op,ev F x with
  |.not,.bool b=>k (.bool (!b))
  |op,v=>Ar P (Op.unary op v) D k w
 |.fieldAddr s x f=>KB T s f (ev F x) (Ar P (Instr.fieldAt s (ev F x) f) D k w) (λv _=>k v) w
 |.nilCheck x=>Pc (ev F x) False (λv _=>k v) w
 |.extract t i=>Pk (ev F t) i (λv _=>k v) w
 |.makeFunc fn first captured=>k (.func fn (IE F first.toList).toArray (IE F captured.toList).toArray)
 |.load t a=>Ar P (Instr.loadAt t (ev F a)) D k w
 |.indexAddr t x ix=>Ar P (Instr.indexAt t (ev F x) (ev F ix)) D k w
 |.index t x ix=>Ar P (Instr.index t (ev F x) (ev F ix)) D k w
 |.slice t x lo hi mx=>Ar P (Instr.sliceAt t (ev F x) (lo.map (ev F)) (hi.map (ev F)) (mx.map (ev F))) D k w
 |.build t parts=>Ar P (Instr.build t (Ud F parts.toList).toArray) D k w
 |.lookup t x ix ok=>Ar P (Instr.lookup t (ev F x) (ev F ix) ok) D k w
 |.convert src dst x=>Ar P (convert src dst (ev F x)) D k w
 |.field t x f=>Ar P (Instr.field t (ev F x) f) D k w
 |.makeInterface t x=>Ar P (Instr.makeInterface t (ev F x)) D k w
 |.typeAssert x t u ok=>Ar P (Instr.typeAssert (ev F x) t u ok) D k w
 |.call c=>match c.callee with
  |.builtin b=>match b with
   |.len=>match c.args.toList,c.argTypes.toList with
    |[x],[t]=>PX T t (ev F x) (Ar P (Builtin.len_ c.argTypes o.type (IE F c.args.toList).toArray) D k w) (λv _=>k v) w
    |_,_=>False
   |.max=>Ar P (Builtin.max_ c.argTypes o.type (IE F c.args.toList).toArray) D k w
   |.min=>Ar P (Builtin.min_ c.argTypes o.type (IE F c.args.toList).toArray) D k w
   |.cap=>Ar P (Builtin.cap_ c.argTypes o.type (IE F c.args.toList).toArray) D k w
   |_=>False
  |_=>False
 |_=>False
section
variable {P:Program} {T:Ce} {n:Nat}
theorem Ia{k:Value->Prop}{s:Sem Value}(h:Ar P s D k w):
  ∃v,(∀w',Fr D w w'->(do let x <-s;pure (Next.value x):Sem Next).run P w'=.ok (.value v) w')/\k v:=by
 rw[Iv]at h;obtain⟨v,c,d⟩:=h;exact⟨v,λw' b=>by rw[HJ,c w' b];rfl,d⟩
theorem qU(G : T.ok P = true){o : Oper}{F : Nat -> Value}{k : Value -> Prop}(h : HF P T D o F k w) :
    ∃ v, (∀ w', Fr D w w' -> (execOp (ev F) o).run P w' = .ok (.value v) w') /\ k v := by
  unfold HF at h;unfold execOp;split at h<;>rename_i Q<;>simp only[Q]
  · exact⟨_, λw' _ => rfl, h⟩
  · exact⟨_, λw' _ => rfl, h⟩
  · unfold MU at h
    split at h
    · rename_i c H
      simp only[H, asBool];cases c<;>exact⟨_, λw' _ => by simp, h⟩
    · exact h.elim
  · split at h
    · rename_i C t x y _ _ _ I m R n J S
      cases K : HL I R with
      | false => simp only[K, cond_false]at h
      | true =>
        simp only[K, cond_true]at h;obtain rfl := wS K
        have g : ∀ v, (∀ w', (binOp C t (.int I m) (.int I n)).run P w' = .ok v w') -> k v -> ∃ v, (∀ w', Fr D w w' -> (do let v <- (do eqGuard C t x y (ev F x) (ev F y); binOp C t (ev F x) (ev F y) : Sem Value); pure (Next.value v) : Sem Next).run P w' = .ok (.value v) w') /\ k v := by
          intro v p L;refine⟨v, λw' _ => ?_, L⟩;rw[J, S, HJ, Qo, pD];simp only[Qh, p]
        cases C<;>simp only[Nc, ZX, bY, aD]at h<;>first
          | exact h.elim
          | (refine g _ (λw' => ?_) h; simp[binOp, Op.intArith]; done)
          | (obtain⟨h0, q⟩ := h; refine g _ (λw' => ?_) q; simp[binOp, Op.intDiv, h0]; done)
          | (rcases Xw _ with r|r
             · refine g (.bool true) (λw' => ?_) (h.t r); simp[binOp, Op.intCmp]; first|exact r|omega
             · refine g (.bool false) (λw' => ?_) (h.f r); simp[binOp, Op.intCmp]; first|exact r|omega)
    · exact Ia h
  · split at h
    · rename_i b hb
      exact⟨_, λw' _ => by simp[hb, Op.unary], h⟩
    · exact Ia h
  · unfold KB at h
    split at h
    · rename_i b o hb
      split at h
      · rename_i d hd
        exact⟨_, λw' _ => by rw[HJ, hb, lP G hd]; rfl, h⟩
      · exact Ia (by rw[hb]at h; rw[hb]; exact h)
    · exact Ia h
  · unfold Pc at h
    split at h
    · rename_i a U
      simp only[U];exact⟨_, λw' _ => rfl, h⟩
    · exact h.elim
  · rename_i t i
    unfold Pk at h;split at h
    · rename_i vs p
      rw[Dw]at h;split at h
      · rename_i v M
        have : vs[i]? = some v := by simpa using M
        exact⟨v, λw' _ => by simp only[p, Instr.extract, this]; rfl, h⟩
      · exact h.elim
    · exact h.elim
  · rw[RN, RN]at h
    exact⟨_, λw' _ => by simp[Instr.makeFunc], h⟩
  all_goals first|exact Ia h|(rw[oW]at h; exact Ia h)|skip
  · rename_i c
    have E : ∀ b s, c.callee = .builtin b -> (∀ l, builtin b c.argTypes o.type l (c.args.map (ev F)) = (do let x <- s; pure (Next.value x))) ->
        (∃ v, (∀ w', Fr D w w' -> (do let x <- s; pure (Next.value x) : Sem Next).run P w' = .ok (.value v) w') /\ k v) ->
        ∃ v, (∀ w', Fr D w w' -> (do let d <- resolve (ev F) c o.type; invoke d.target d.args : Sem Next).run P w' = .ok (.value v) w') /\ k v := by
      intro b s H hb h
      have : (do let d <- resolve (ev F) c o.type; invoke d.target d.args : Sem Next) = (do let x <- s; pure (Next.value x)) := by
        simp only[resolve, H, pure_bind, invoke];exact hb _
      rw[this]; exact h
    split at h
    · rename_i b hb
      split at h
      · split at h
        · rename_i x t J V
          have z : c.args = #[x] := by rw[<- Jz (xs := c.args), J]
          have A : c.argTypes = #[t] := by rw[<- Jz (xs := c.argTypes), V]
          unfold PX at h;split at h
          · rename_i a n W p
            split at h
            · rename_i q
              obtain⟨e, O⟩ := Ce.slice G q;refine E _ (Builtin.len_ c.argTypes o.type (c.args.map (ev F))) hb (λ_ => rfl) ⟨_, λw' _ => ?_, h⟩;rw[HJ, z, A]; simp only[Xi, QS, JP, p, r8 O];rfl
            · exact h.elim
          · rename_i s p
            split at h
            · rename_i q
              have O := Ce.string G q;refine E _ (Builtin.len_ c.argTypes o.type (c.args.map (ev F))) hb (λ_ => rfl) ⟨_, λw' _ => ?_, h⟩;rw[HJ, z, A]; simp only[Xi, QS, JP, p, qK O];rfl
            · exact h.elim
          · rw[RN]at h; exact E _ _ hb (λ_ => rfl) (Ia h)
        · exact h.elim
      all_goals first
        | exact h.elim
        | (rw[RN]at h; exact E _ _ hb (λ_ => rfl) (Ia h))
    · exact h.elim
  all_goals exact h.elim
def D8 (P : Program) (T : Ce) (n : Nat) (D : Nat -> Prop) (all : List Oper) (i : Nat) (ih : (Nat -> Value) -> ((Nat -> Value) -> World -> Prop) -> (List PanicEntry -> World -> Prop) -> World -> Prop)
    (F : Nat -> Value) (k : (Nat -> Value) -> World -> Prop) (pn : List PanicEntry -> World -> Prop) (w : World) : Prop :=
  match Ij all i with
    | none => False
    | some o => match o.guard with
      | none => bif Ez o then HF P T D o F (λv => BY n F o.dst v λF' => ih F' k pn w) w
          else IY P T o F (λv w' => Fr D w w' /\ BY n F o.dst v λF' => ih F' k pn w') pn w
      | some (j, want) => match Ij all j with
        | some g => match g.dst with
          | some d => match F d with
            | .bool b => match Nat.blt d n with
              | true => match want with
                | true => EN b
                    (bif Ez o then HF P T D o (CQ F d (.bool true)) (λv => BY n (CQ F d (.bool true)) o.dst v λF' => ih F' k pn w) w
                      else IY P T o (CQ F d (.bool true)) (λv w' => Fr D w w' /\ BY n (CQ F d (.bool true)) o.dst v λF' => ih F' k pn w') pn w)
                    (BY n (CQ F d (.bool false)) o.dst undef λF' => ih F' k pn w)
                | false => EN b
                    (BY n (CQ F d (.bool true)) o.dst undef λF' => ih F' k pn w)
                    (bif Ez o then HF P T D o (CQ F d (.bool false)) (λv => BY n (CQ F d (.bool false)) o.dst v λF' => ih F' k pn w) w
                      else IY P T o (CQ F d (.bool false)) (λv w' => Fr D w w' /\ BY n (CQ F d (.bool false)) o.dst v λF' => ih F' k pn w') pn w)
              | false => False
            | .tuple _ => BY n F o.dst undef λF' => ih F' k pn w
            | _ => False
          | none => False
        | none => False
def HH (P:Program) (T:Ce) (n:Nat) (D:Nat->Prop) (all:List Oper) (σ:List Nat):(Nat->Value)->((Nat->Value)->World->Prop)->(PW)->World->Prop:=
 List.rec (motive:=λ_=>(Nat->Value)->((Nat->Value)->World->Prop)->(PW)->World->Prop) (λF k _ w=>k F w) (λi _ ih=>D8 P T n D all i ih) σ
theorem zM9(P:Program)(T:Ce)(n:Nat)(D:Nat->Prop)(all:List Oper)(i:Nat)(r:List Nat)(F:Nat->Value)(k:(Nat->Value)->World->Prop)(b:PW)(w:World):
  HH P T n D all (i::r) F k b w=D8 P T n D all i (HH P T n D all r) F k b w:=rfl
def Fl (ops:Array Oper):Bool:=ops.all λo=>!MO o.op
def Pl (ops:Array Oper):List Nat->Array Bool->Bool
 |[],listed=>(Region.ready .any ops listed).isEmpty
 |i::r,listed=>match ops[i]? with
  |none=>false
  |some o=>(bif Ez o then Region.free .any ops listed i && (Region.ready .any ops listed).contains i else Region.ready .any ops listed==[i]) && Pl ops r (listed.setIfInBounds i true)
def OK (ops:Array Oper) (σ:List Nat):Bool:=Region.noSelect ops && Fl ops && (σ.length==ops.size) && Pl ops σ (Array.replicate ops.size false)
section
variable {ops:Array Oper} {Q:Exit->Act->World->Prop} {md:Region.Mode} {S:World->Prop} {r:Option Nat}
theorem tR{ops:Array Oper}(h:Fl ops=true){o:Oper}(b:ops[j]? = some o):∀c,o.op≠.defer c:=by
 intro c d;have:=(Array.all_eq_true'.1 h) o (Array.mem_of_getElem? b);rw[d]at this;cases this
theorem nQ{o:Oper}{v:Value}{a:Act}(b:Fl ops=true)(hi:ops[i]? = some o)(d:YieldsIf P ops S o v a)
  {K:Act->World->Prop}(e:S w)(h:K (a.put o.dst v) w):wpOpIn (fw r) 0 P ops Q i K a w:=by
 unfold Go.wpOpIn;simp only[hi];rcases d with⟨c,f⟩|⟨c,rfl⟩
 ·simp only[c,if_true,Oper.wpIn,Yd _ _ _ (tR b hi),f w e,Oper.uponIn];exact⟨λ_ _=>trivial,h⟩
 ·simp only[c,Jt,if_false];exact⟨λ_ _=>trivial,h⟩
theorem zMc{oi g:Oper}{v:Value}(A:Fl ops=true)(I:ops[j]? = some g)(C:oi.apart ops g=true)
  (E:∀cs b,oi.op≠.select cs b)(F:∀cs b,g.op≠.select cs b)
  (G:∀c a w,Q (.panic c) (a.put oi.dst v) w->Q (.panic c) a w){K:Act->World->Prop}{a:Act}
  (o:YieldsIf P ops S oi v a)(h:wpOpIn (fw r) 0 P ops Q j K (a.put oi.dst v) w):
  wpOpIn (fw r) 0 P ops Q j (λa' w'=>YieldsIf P ops S oi v a'/\K (a'.put oi.dst v) w') a w:=by
 obtain⟨J,q,L⟩:=Oper.apart_spec C
 have keep:∀(a:Act),YieldsIf P ops S oi v a->∀u,YieldsIf P ops S oi v (a.put g.dst u):=λa o u =>
  o.of_same (execOp_put oi E a g.dst u L) (wanted_put oi a g.dst u L)
 have y:=tR A I;unfold wpOpIn at *;simp only[I]at *;rw[wanted_put g a oi.dst v J]at h;split
 ·rename_i H;simp only[H,if_true]at h;unfold Oper.wpIn at *;refine⟨λ_ _=>trivial,?_⟩;have h:=h.2;rw[Yd _ _ _ y,execOp_put g F a oi.dst v J]at h;rw[Yd _ _ _ y];generalize (execOp a.eval g).run P w=res at h ⊢
  cases res with
  |ok x w' =>
   cases x<;>simp only[Oper.uponIn]at h ⊢
   case value u=>exact⟨keep a o u,by rw[<-Xb a v u q];exact h⟩
   case skip=>exact⟨keep a o _,by rw[<-Xb a v undef q];exact h⟩
   case defer d =>
    have t:YieldsIf P ops S oi v { a with defers:=d::a.defers }:=o.of_same rfl rfl;refine⟨keep _ t _,?_⟩;rw[<-Xb _ v undef q,<-Act.put_defers];exact h
   case enter f args =>
    refine⟨h.1,CallsIn.mono h.2 λe z p=>?_⟩
    cases e with
    |returned u=>exact⟨keep a o u,by rw[<-Xb a v u q];exact p⟩
    |panicked c=>exact G _ _ _ p
    |outgrown=>exact p
   case row row args=>exact⟨h.1,RowsIn.mono h.2 λu z p=>⟨keep a o u,by rw[<-Xb a v u q];exact p⟩⟩
   case round l f tmps assign body =>
    refine⟨h.1,RoundIn.mono h.2 λe z p=>?_⟩
    cases e with
    |returned u=>exact⟨keep a o u,by rw[<-Xb a v u q];exact p⟩
    |panicked c=>exact G _ _ _ p
    |outgrown=>exact p
  |halt x w' =>
   cases x<;>simp only[Oper.uponIn]at h ⊢
   case panic u=>exact G _ _ _ h
 ·rename_i H;simp only[H]at h;exact⟨λ_ _=>trivial,keep a o _,by rw[<-Xb a v undef q];exact h.2⟩
def Fb (P:Program) (r:Option Nat) (md:Region.Mode) (ops:Array Oper) (Q:Exit->Act->World->Prop) (S:World->Prop):Nat->Array Bool->Act->World->Prop
 |0,listed,a,w=>Region.ready md ops listed=[]/\Q .normal a w
 |fuel+1,listed,a,w =>
  (Region.ready md ops listed=[]->Q .normal a w) /\
  ∀i∈Region.ready md ops listed,wpOpIn (fw r) 0 P ops Q i (λa' w'=>S w'/\Fb P r md ops Q S fuel (listed.setIfInBounds i true) a' w') a w
theorem cK:∀(fuel:Nat) (b:Array Bool) (a:Act) (w:World),Fb P r md ops Q S fuel b a w->wpAnyIn (fw r) 0 P md ops Q fuel b a w
 |0,_,_,_,h=>h
 |fuel+1,_,_,_,h=>⟨h.1,λi hi=>wpOpIn_mono (λa' w' c=>cK fuel _ a' w' c.2) (h.2 i hi)⟩
theorem zM0{oi:Oper}{v:Value}(x:Fl ops=true)(hi:ops[i]? = some oi)(q:∀(j:Nat) (o:Oper) cs b,ops[j]? = some o->o.op≠.select cs b)
  (W:∀c a w,Q (.panic c) (a.put oi.dst v) w->Q (.panic c) a w):
  ∀(f:Nat) (d:Array Bool) (a:Act) (w:World),
   (∀j y,ops[j]? = some y->j≠i->d.getD j true=false->(∀e∈y.after,Region.binds md e=true->e.on≠i)->oi.apart ops y=true) ->
   i∈Region.ready md ops d->YieldsIf P ops S oi v a->S w ->
   Fb P r md ops Q S f (d.setIfInBounds i true) (a.put oi.dst v) w->Fb P r md ops Q S (f+1) d a w:=by
 intro f
 induction f with
 |zero =>
  intro d a w _ z K E H;refine⟨λh=>(by rw[h]at z;cases z),λj L=>?_⟩;by_cases g:j=i
  ·subst g;exact nQ x hi K E ⟨E,H⟩
  ·have:=ready_mono L g;rw[H.1]at this;cases this
 |succ f X =>
  intro d a w l z K E H;refine⟨λh=>(by rw[h]at z;cases z),λj L=>?_⟩;by_cases g:j=i
  ·subst g;exact nQ x hi K E ⟨E,H⟩
  ·have A:=H.2 j (ready_mono L g);obtain⟨t,y,C,F⟩:=mem_ready.1 L
   have G:∀e∈y.after,Region.binds md e=true->e.on≠i:=λe Y hb O=>by
    have A:=F e Y hb;have h0:=(mem_ready.1 z).1;rw[O]at A;rcases QH i d.size with R|R
    ·simp[R]at h0 A;rw[h0]at A;cases A
    ·simp[Jn R]at A
   have Z:=zMc x C (l j y C g t G) (λcs b=>q i oi cs b hi) (λcs b=>q j y cs b C) W K A
   have p:∀k ok,ops[k]? = some ok->k≠i->(d.setIfInBounds j true).getD k true=false ->
     (∀e∈ok.after,Region.binds md e=true->e.on≠i)->oi.apart ops ok=true:=λk ok hk U I V=>by
    refine l k ok hk U ?_ V;by_cases J:j=k
    ·subst J;exact t
    ·rw[getD_set_ne true J]at I;exact I
   refine wpOpIn_mono (λa' w' M=>⟨M.2.1,X (d.setIfInBounds j true) a' w' p (ready_mono z (Jq g)) M.1 M.2.1 ?_⟩) Z;rw[Array.setIfInBounds_comm _ _ g];exact M.2.2
theorem dA{oi:Oper}{v:Value}{d:Nat}{b:Array Bool}{a:Act}(e:Fl ops=true)(hi:ops[i]? = some oi)
  (f:Region.noSelect ops=true)(g:Region.free md ops b i=true)(l:(Region.ready md ops b).contains i=true)
  (o:∀c a w,Q (.panic c) (a.put oi.dst v) w->Q (.panic c) a w)(p:YieldsIf P ops S oi v a)(q:S w)
  (h:Fb P r md ops Q S d (b.setIfInBounds i true) (a.put oi.dst v) w):Fb P r md ops Q S (d+1) b a w:=
 zM0 e hi (Region.noSelect_spec f) o d b a w (Region.free_spec hi g) (by simpa using l) p q h
theorem US{d:List Nat}{c:Nat}{b:Array Bool}{a:Act}(f:Region.ready md ops b=d)(e:d≠[])
  (h:∀i∈d,wpOpIn (fw r) 0 P ops Q i (λa' w'=>S w'/\Fb P r md ops Q S c (b.setIfInBounds i true) a' w') a w):Fb P r md ops Q S (c+1) b a w:=
 ⟨λh0=>absurd (f ▸ h0) e,f ▸ h⟩
end
theorem eS{r:Option Nat}{ops:Array Oper}{Q:Exit->Act->World->Prop}{A B:World->Prop}(h:∀w,A w->B w):∀(fuel:Nat) (b:Array Bool) (a:Act) (w:World),
  Fb P r .any ops Q A fuel b a w->Fb P r .any ops Q B fuel b a w
 |0,_,_,_,c=>c
 |fuel+1,_,_,_,c=>⟨c.1,λi hi=>wpOpIn_mono (λa' w' d=>⟨h _ d.1,eS h fuel _ a' w' d.2⟩) (c.2 i hi)⟩
theorem zNJ(hT:T.ok P=true){r:Option Nat}(D:Nat->Prop)(ops:Array Oper)(H:Nat->Value)(z:Nat->Bool)(a2:∀t,HM ops.toList t=true->z t=true)(k:(Nat->Value)->World->Prop)(A:PW)(hs:Region.noSelect ops=true)(V:Fl ops=true):
  ∀(W:List Nat) (f:Array Bool) (F:Nat->Value) (w:World) (a:Act),FI n F a->agree z H F->Pl ops W f=true->HH P T n D ops.toList W F k A w ->
   Fb P r .any ops (LQ n H z k (λ_=>A)) (Fr D w) W.length f a w:=by
 intro W
 induction W with
 |nil =>
  intro f F w a I h0 p h;exact⟨by simpa[Pl]using p,F,I,h0,h⟩
 |cons i rest ih =>
  intro f F w a I h0 p h;simp only[Pl]at p;rw[zM9]at h;unfold D8 at h;rw[Dw]at h;split at h
  ·exact h.elim
  rename_i o R;have hi:ops[i]? = some o:=by simpa using R
  simp only[hi,Qz]at p
  have X:∀t,Nv o.dst t=true->z t=true:=by
   intro t J;refine a2 t ?_;have Y:o∈ops.toList:=Jy R;clear R hi h p;generalize ops.toList=l at Y
   induction l with
   |nil=>cases Y
   |cons x r a3 =>
    simp only[HM,VV];rcases Ql.1 Y with rfl|Y
    ·exact .inl (by unfold PD;rw[J];rfl)
    ·exact .inr (a3 Y)
  have step:∀{G:Nat->Value} {v:Value} {w':World},FI n G a->agree z H G->BY n G o.dst v (λC=>HH P T n D ops.toList rest C k A w') ->
    Fb P r .any ops (LQ n H z k (λ_=>A)) (Fr D w') rest.length (f.setIfInBounds i true) (a.put o.dst v) w':=by
   intro G v w' K q hp;obtain⟨C,M,U,h3⟩:=K.put hp
   exact ih _ C w' _ M (λt J=>by
    rw[U t (by cases hd:Nv o.dst t;rfl;have:=X t hd;rw[J]at this;cases this),q t J]) p.2 h3
  have O:∀c (a:Act) (w:World) (v:Value),LQ n H z k (λ_=>A) (.panic c) (a.put o.dst v) w->LQ n H z k (λ_=>A) (.panic c) a w:=by
   intro c a w v L;simp only[LQ]at L ⊢;obtain⟨C,M,U,h3⟩:=L;have a4:(a.put o.dst v).tmps.size=a.tmps.size:=by cases hd:o.dst<;>simp[Act.put]
   have a5:(a.put o.dst v).defers=a.defers:=by cases hd:o.dst<;>simp[Act.put]
   refine⟨λt=>bif Nat.beq t 4294967296 then C 4294967296 else a.tmps.getD t undef,⟨by rw[<-a4];exact M.size,M.le,by rw[<-a5];exact M.defers,λt J=>?_⟩,λt J=>?_,h3⟩
   ·cases L:Nat.beq t 4294967296 with
    |false=>simp only[L,cond_false]
    |true=>exact absurd (QD L) J
   ·cases L:Nat.beq t 4294967296 with
    |true=>simp only[L,cond_true];rw[<-QD L];exact U t J
    |false =>
     simp only[L,cond_false];rw[<-U t J,<-M.get t (λe=>by subst e;simp at L)]
     cases hd:o.dst with
     |none=>rfl
     |some d =>
      have a6:d≠t:=by
       rintro rfl;have:=X d (by simp[Nv,hd]);rw[J]at this;cases this
      simp[Act.put,Jr,V1,a6]
  have y:∀{G:Nat->Value},FI n G a->agree z H G->Region.wanted o (yielded ops a.tmps)=true ->
    (bif Ez o then HF P T D o G (λv=>BY n G o.dst v λC=>HH P T n D ops.toList rest C k A w) w
     else IY P T o G (λv w'=>Fr D w w'/\BY n G o.dst v λC=>HH P T n D ops.toList rest C k A w') A w) ->
    Fb P r .any ops (LQ n H z k (λ_=>A)) (Fr D w) (i::rest).length f a w:=by
   intro G K q Z S
   cases hk:Ez o with
   |true =>
    simp only[hk,cond_true]at S p;rw[Qz]at p;obtain⟨v,M,U⟩:=qU hT S;refine dA V (i:=i) (oi:=o) (v:=v) hi hs p.1.1 p.1.2 (λc a w=>O c a w v) (.inl ⟨Z,λw' a7=>?_⟩) (Fr.refl D w) (step K q U);rw[K.eval];exact M w' a7
   |false =>
    simp only[hk,cond_false]at S p;have hr:Region.ready .any ops f=[i]:=by simpa using p.1
    refine US hr (by simp) (λj hj=>?_);obtain rfl:j=i:=by simpa using hj
    unfold wpOpIn;simp only[hi,Z,if_true];refine NY hT S K (λv w' hv=>?_) (λc w' hc=>⟨G,K,q,hc⟩);exact⟨hv.1,eS (λu hu=>hv.1.trans hu) _ _ _ _ (step K q hv.2)⟩
  have skip:∀{G:Nat->Value},FI n G a->agree z H G->Region.wanted o (yielded ops a.tmps)=false->BY n G o.dst undef (λC=>HH P T n D ops.toList rest C k A w) ->
    Fb P r .any ops (LQ n H z k (λ_=>A)) (Fr D w) (i::rest).length f a w:=by
   intro G K q Z S
   cases hk:Ez o with
   |true =>
    simp only[hk,cond_true]at p;rw[Qz]at p;exact dA V (i:=i) (oi:=o) (v:=undef) hi hs p.1.1 p.1.2 (λc a w=>O c a w undef) (.inr ⟨Z,rfl⟩) (Fr.refl D w) (step K q S)
   |false =>
    simp only[hk,cond_false]at p;have hr:Region.ready .any ops f=[i]:=by simpa using p.1
    refine US hr (by simp) (λj hj=>?_);obtain rfl:j=i:=by simpa using hj
    unfold wpOpIn;simp only[hi,Z];exact⟨λ_ _=>trivial,Fr.refl D w,step K q S⟩
  split at h
  ·rename_i hg;exact y I h0 (by simp[Region.wanted,hg]) h
  rename_i j a0 hg;rw[Dw]at h;split at h
  case h_2=>exact h.elim
  case h_1 g hgj =>
  split at h
  case h_2=>exact h.elim
  case h_1 d hd =>
  have Q:d<n->yielded ops a.tmps j=match F d with | .bool b=>some b|_=>none:=by
   intro hdn;have E:ops[j]? = some g:=by simpa using hgj
   have:=I.get d (Nat.ne_of_lt (QJ hdn I.le));have hs:=I.size;simp only[yielded,E,VN,hd]
   have e:a.tmps[d]? = some (F d):=by
    rw[<-this,Jr];rw[QT (by rw[hs];exact hdn)];rfl
   rw[e];cases F d<;>simp
  split at h
  ·rename_i b hb;have hF:CQ F d (.bool b)=F:=by rw[<-hb];exact cG F d
   split at h
   case h_2=>exact h.elim
   case h_1 hdn =>
   have a1:d<n:=by simpa[Nat.blt_eq]using hdn
   have Q:=Q a1;simp only[hb]at Q
   cases a0<;>cases b<;>simp only[EN,hF]at h<;>first
    |exact y I h0 (by simp[Region.wanted,hg,Q]) h
    |exact skip I h0 (by simp[Region.wanted,hg,Q]) h
  ·rename_i vs hb
   have Q:yielded ops a.tmps j=none:=by
    by_cases hdn:d<n
    ·rw[Q hdn];simp only[hb]
    ·have E:ops[j]? = some g:=by simpa using hgj
     have e:a.tmps[d]? = none:=Jn (by rw[I.size];exact Yi hdn);simp only[yielded,E,VN,hd,e]
   exact skip I h0 (by simp[Region.wanted,hg,Q]) h
  ·exact h.elim
def Hn:Nat->Nat->List Nat
 |0,_=>[]
 |m+1,i=>i::Hn m (i+1)
theorem Nw(o:T.ok P=true)(p:P.follows .mixedOrders=true)(D:Nat->Prop)(f:List Nat){ops:Array Oper}{Q:KS}{F:Nat->Value}(d:OK ops f=true)
  (h:∀w',AC w w'->w'.heap=w.heap->HH P T n D ops.toList f F Q.nrm (λc w=>∀b,agree (wr (.region i ops true)) F b->Q.pan b c w) w'):BI P T n (.region i ops true) Q F w:=by
 rw[SH];intro md q a v;simp only[OK,Qz]at d;have hd:=zNJ o (r:=md) D ops F (wr (.region i ops true)) (λt x=>x) Q.nrm (λc w=>∀b,agree (wr (.region i ops true)) F b->Q.pan b c w) d.1.1.1 d.1.1.2 f (Array.replicate ops.size false) F _ a v (λ_ _=>rfl) d.2 (h _ ⟨Bp.drew w⟩ rfl);have e:f.length=ops.size:=by simpa using d.1.2
 rw[e]at hd;refine Jb ?_ (wpIn_region_any p (cK _ _ _ _ hd));intro e a' w' g;cases e<;>simp only[LQ]at g<;>simp only[KS.lift]
 ·exact g
 ·obtain⟨b,y,l,z⟩:=g;exact⟨b,y,l,z b l⟩
end
end Go.W
set_option linter.unusedSimpArgs false
namespace Go.W
open Go
variable {B N i j k m n:Nat} {D:Nat -> Prop} {P:Program} {a a':OA} {s:U8} {u u' w w':World}
section
variable {P:Program} {T:Ce} {n:Nat} {k k':KW} {pn pn':PW} {w:World}
theorem Wc{s:Sem Value}(b:∀v w,k v w->k' v w)(d:∀c w,pn c w->pn' c w)(h:AI P s k pn w):AI P s k' pn' w:=by
 simp only[YU]at *;generalize s.run P w=r at *
 cases r with
 |ok v w'=>exact b _ _ h
 |halt x w'=>cases x<;>first|exact d _ _ h|exact h
theorem zNB{s:Sem Unit}(b:∀v w,k v w->k' v w)(d:∀c w,pn c w->pn' c w)(h:Ed P s k pn w):Ed P s k' pn' w:=by
 simp only[bB]at *;generalize s.run P w=r at *
 cases r with
 |ok v w'=>exact b _ _ h
 |halt x w'=>cases x<;>first|exact d _ _ h|exact h
theorem qS{f:FuncId}{args:Array Value}(d:∀v w,k v w->k' v w)(g:∀c w,pn c w->pn' c w)(h:Gz P f args k pn w):Gz P f args k' pn' w:=by
 simp only[Us]at *;exact⟨h.1,h.2.mono λe w' b=>by cases e<;>first|exact d _ _ b|exact g _ _ b|exact b⟩
theorem zLK{l:Nat}{f:FuncId}{tmps:Array Value}{assign body:Code}(d:∀v w,k v w->k' v w)(g:∀c w,pn c w->pn' c w)(h:LN P l f tmps assign body k pn w):LN P l f tmps assign body k' pn' w:=
 ⟨h.out.mono λe w' b=>by cases e<;>first|exact d _ _ b|exact g _ _ b|exact b⟩
theorem Wy{s:Sem Next}(b:∀v w,k v w->k' v w)(d:∀c w,pn c w->pn' c w)(h:DT P s k pn w):DT P s k' pn' w:=by
 simp only[Si]at *;generalize s.run P w=r at *
 cases r with
 |ok x w'=>cases x<;>first|exact b _ _ h|exact qS b d h|exact zLK b d h|exact h
 |halt x w'=>cases x<;>first|exact d _ _ h|exact h
theorem zNI{d:BinOp}{x y:Int}{c b:Prop}(e:∀v w,k v w->k' v w)(g:c->b)(h:Nc d x y k c w):Nc d x y k' b w:=by
 cases d<;>simp only[Nc]at *<;>first|exact⟨λp=>e _ _ (h.t p),λp=>e _ _ (h.f p)⟩|exact g h
theorem sW{o:Oper}{F:Nat->Value}(b:∀v w,k v w->k' v w)(d:∀c w,pn c w->pn' c w)(h:IY P T o F k pn w):IY P T o F k' pn' w:=by
 unfold IY at *;split at h<;>rename_i g<;>(try simp only[g])
 ·exact b _ _ h
 ·exact b _ _ h
 ·unfold MU at *;split at h
  ·split at h<;>exact b _ _ h
  ·exact h.elim
 ·unfold Ox at *;split at h
  ·rename_i l m p q f r
   try simp only
   cases e:HL l p with
   |false=>simp only[e,cond_false]at h
   |true =>
    simp only[e,cond_true]at h ⊢;split at h<;>(try simp only[ZX,bY,aD]at *)<;>first|exact b _ _ h|exact⟨h.1,b _ _ h.2⟩|exact zNI b (Wc b d) h
  ·exact Wc b d h
 ·unfold kE at *;split at h
  ·exact b _ _ h
  ·exact Wc b d h
 ·unfold KB at *;split at h
  ·rename_i f
   try simp only[f]
   split at h
   ·exact b _ _ h
   ·exact Wc b d (by simp_all)
  ·exact Wc b d h
 ·unfold Pk at *;split at h
  ·split at h
   ·exact b _ _ h
   ·exact h.elim
  ·exact h.elim
 ·exact b _ _ h
 ·unfold Pf at *;split at h
  ·unfold jS at *;split at h
   ·exact qS b d h
   ·exact Wy b d h
  ·exact Wy b d h
  ·split at h
   ·split at h
    ·unfold PX at *;split at h
     ·split at h
      ·exact b _ _ h
      ·exact h.elim
     ·split at h
      ·exact b _ _ h
      ·exact h.elim
     ·exact Wy b d h
    ·exact h.elim
   all_goals first|exact Wc b d h|exact Wy b d h
 all_goals first|exact Wc b d h|exact zNB b d h|exact h.elim|(unfold Pc at *;split at h;exact b _ _ h;exact Wy b d h)|exact Wy b d h
theorem zOe{F:Nat->Value}{d:Option Nat}{v:Value}{q b:(Nat->Value)->Prop}(c:∀G,agree (Nv d) F G->q G->b G)(h:BY n F d v q):BY n F d v b:=by
 cases d with
 |none=>exact c _ (λ_ _=>rfl) h
 |some d =>
  simp only[BY]at *;split at h
  ·refine c _ (λt e=>?_) h;simp only[Nv]at e;simp[CQ,e]
  ·exact h
theorem zN8(all : List Oper){q Q : (Nat -> Value) -> World -> Prop}{p M : (Nat -> Value) -> List PanicEntry -> World -> Prop} : ∀ (l : List Oper) (F : Nat -> Value) (w : World),
    (∀ G w, agree (HM l) F G -> q G w -> Q G w) -> (∀ G c w, agree (HM l) F G -> p G c w -> M G c w) -> Dv P T n all l F q p w -> Dv P T n all l F Q M w := by
  intro l
  induction l with
  | nil => intro F w O _ h; exact O _ _ (λ_ _ => rfl) h
  | cons o rest W =>
    intro F w O R h
    have step : ∀ {G : Nat -> Value} {v : Value} {w' : World}, agree (λ_ => false) F G -> BY n G o.dst v (λe => Dv P T n all rest e q p w') -> BY n G o.dst v (λe => Dv P T n all rest e Q M w') := by
      intro G v w' S hh
      have J : ∀ {K H : Nat -> Value}, agree (Nv o.dst) G K -> agree (HM rest) K H -> agree (HM (o :: rest)) F H := by
        intro K H C y t I;simp only[HM, PD, QG]at I;rw[y t I.2, C t I.1.1, S t rfl]
      exact zOe (λK C hq => W K w' (λH r y x => O H r (J C y) x) (λH c r y x => R H c r (J C y) x) hq) hh
    have sw : ∀ {d : Nat} {b : Bool}, F d = .bool b -> agree (λ_ => false) F (CQ F d (.bool b)) := by
      intro d b hb t _;rw[<- hb, cG]
    have L : ∀ {G : Nat -> Value}, agree (λ_ => false) F G -> ∀ c w, p G c w -> M G c w := λS c w h => R _ c w (λt _ => S t rfl) h;by_cases E : ∃ c, o.op = .defer c
    · obtain⟨c, X⟩ := E
      simp only[dW, Et, X, Uz]at h ⊢;split at h
      case h_2 => exact h.elim
      rename_i f hr U hd Y;split at h
      case h_2 => exact h.elim
      rename_i fn first cap hf
      have J : ∀ {H : Nat -> Value}, agree (HM rest) (CQ F 4294967296 (HA (.agg (.func fn first cap :: IE F c.args.toList).toArray) (F 4294967296))) H -> agree (HM (o :: rest)) F H := by
        intro H y t I;simp only[HM, PD, X, MO, Bool.true_and, QG]at I;rw[y t I.2]; unfold CQ; rw[I.1.2]; rfl
      exact W _ w (λH r y x => O H r (J y) x) (λH c r y x => R H c r (J y) x) h
    have z : ∀ (q : (Nat -> Value) -> World -> Prop) (p : (Nat -> Value) -> List PanicEntry -> World -> Prop), Et P T n all o (Dv P T n all rest) F q p w = (match o.guard with
      | none => IY P T o F (λv w' => BY n F o.dst v λe => Dv P T n all rest e q p w') (p F) w
      | some (j, A) => match Ij all j with
        | some g => match g.dst with
          | some d => match F d with
            | .bool b => match Nat.blt d n with
              | true => match A with
                | true => EN b (IY P T o (CQ F d (.bool true)) (λv w' => BY n (CQ F d (.bool true)) o.dst v λe => Dv P T n all rest e q p w') (p (CQ F d (.bool true))) w)
                    (BY n (CQ F d (.bool false)) o.dst undef λe => Dv P T n all rest e q p w)
                | false => EN b (BY n (CQ F d (.bool true)) o.dst undef λe => Dv P T n all rest e q p w)
                    (IY P T o (CQ F d (.bool false)) (λv w' => BY n (CQ F d (.bool false)) o.dst v λe => Dv P T n all rest e q p w') (p (CQ F d (.bool false))) w)
              | false => False
            | .tuple _ => BY n F o.dst undef λe => Dv P T n all rest e q p w
            | _ => False
          | none => False
        | none => False) := by
      intro q p;unfold Et;cases ho : o.op<;>first|rfl|exact absurd ⟨_, ho⟩ E
    rw[dW, z]at h ⊢;clear z
    cases U : o.guard with
    | none => simp only[U]at *; exact sW (λv w' V => step (λ_ _ => rfl) V) (L λ_ _ => rfl) h
    | some jw =>
      obtain⟨j, A⟩ := jw;simp only[U]at *
      cases Z : Ij all j with
      | none => simp only[Z]at h
      | some g =>
        simp only[Z]at h ⊢
        cases hd : g.dst with
        | none => simp only[hd]at h
        | some d =>
          simp only[hd]at h ⊢;cases hF : F d<;>simp only[hF]at h ⊢
          case bool b =>
            cases hb : Nat.blt d n<;>simp only[hb]at h ⊢;have := sw hF
            cases A<;>cases b<;>simp only[EN]at h ⊢<;>first
              | exact sW (λv w' V => step this V) (L this) h
              | exact step this h
          case tuple vs => exact step (λ_ _ => rfl) h
theorem IJ:∀(c:Code) (Q f:KS) (F:Nat->Value) (w:World),S P T n c Q F w ->
  (∀G w,agree (wr c) F G->Q.nrm G w->f.nrm G w)->(∀i G w,agree (wr c) F G->Q.ext i G w->f.ext i G w)->(∀G w,agree (wr c) F G->Q.ret G w->f.ret G w)->(∀G p w,agree (wr c) F G->Q.pan G p w->f.pan G p w) ->
  S P T n c f F w:=by
 have deep:∀(c:Code) (Q f:KS) (F:Nat->Value) (w:World),BI P T n c Q F w ->
  (∀G w,agree (wr c) F G->Q.nrm G w->f.nrm G w)->(∀i G w,agree (wr c) F G->Q.ext i G w->f.ext i G w)->(∀G w,agree (wr c) F G->Q.ret G w->f.ret G w)->(∀G p w,agree (wr c) F G->Q.pan G p w->f.pan G p w) ->
  BI P T n c f F w:=by
  intro c Q f F w h g o q r;simp only[SH]at *;intro md L a O;exact Jb (bF (λG w _ d z=>⟨d,g G w d z⟩) (λi G w d z=>⟨d,o i G w d z⟩) (λG w d z=>⟨d,q G w d z⟩) (λG c w d z=>⟨d,r G c w d z⟩)) (h md L a O)
 intro c
 induction c with
 |skip=>intro Q f F w h g _ _ _;exact g _ _ (λ_ _=>rfl) h
 |label l=>intro Q f F w h g _ _ _;exact g _ _ (λ_ _=>rfl) h
 |ret=>intro Q f F w h _ _ q _;exact q _ _ (λ_ _=>rfl) h
 |exit i=>intro Q f F w h _ o _ _;exact o _ _ _ (λ_ _=>rfl) h
 |region i ops K =>
  intro Q f F w h g o q r
  cases K with
  |false=>simp only[Dk,OM,Er,Df,Es,De,Nt,Nu,Ns,Dd,Dg,N6,DW,OE]at *;exact zN8 _ _ _ _ g r h
  |true=>simp only[Dk,OM,Er,Df,Es,De,Nt,Nu,Ns,Dd,Dg,N6,DW,OE]at *;exact deep _ _ _ _ _ h g o q r
 |seq x y I J =>
  intro Q f F w h g o q r;simp only[Dk,OM,Er,Df,Es,De,Nt,Nu,Ns,Dd,Dg,N6,DW,OE]at *;have E:∀{G:Nat->Value},agree (wr x) F G->agree (wr (.seq x y)) F G:=λd t v=>by simp only[wr,QG]at v;exact d t v.1
  have A:∀{G H:Nat->Value},agree (wr x) F G->agree (wr y) G H->agree (wr (.seq x y)) F H:=λd e t v=>by simp only[wr,QG]at v;rw[e t v.2,d t v.1]
  refine I _ _ F w h ?_ (λi G w d=>o i G w (E d)) (λG w d=>q G w (E d)) (λG p w d=>r G p w (E d));intro G w' d R;exact J _ _ G w' R (λH w e=>g H w (A d e)) (λi H w e=>o i H w (A d e)) (λH w e=>q H w (A d e)) (λH p w e=>r H p w (A d e))
 |cond c x y I J =>
  intro Q f F w h g o q r;simp only[Dk,OM,Er,Df,Es,De,Nt,Nu,Ns,Dd,Dg,N6,DW,OE]at *;have E:∀{G:Nat->Value},agree (wr x) F G->agree (wr (.cond c x y)) F G:=λd t v=>by simp only[wr,QG]at v;exact d t v.1
  have C:∀{G:Nat->Value},agree (wr y) F G->agree (wr (.cond c x y)) F G:=λd t v=>by simp only[wr,QG]at v;exact d t v.2
  split at h
  ·rename_i b hb;cases b
   ·exact J _ _ F w h (λH w e=>g H w (C e)) (λi H w e=>o i H w (C e)) (λH w e=>q H w (C e)) (λH p w e=>r H p w (C e))
   ·exact I _ _ F w h (λH w e=>g H w (E e)) (λi H w e=>o i H w (E e)) (λH w e=>q H w (E e)) (λH p w e=>r H p w (E e))
  ·exact h.elim
 |block i c M =>
  intro Q f F w h g o q r;simp only[Dk,OM,Er,Df,Es,De,Nt,Nu,Ns,Dd,Dg,N6,DW,OE]at *;refine M _ _ F w h g ?_ q r;intro j G w' d z;cases hb:Nat.beq j i<;>simp only[hb]at z ⊢
  ·exact o j G w' d z
  ·exact g G w' d z
 |scope c M=>intro Q f F w h g o q r;simp only[Dk,OM,Er,Df,Es,De,Nt,Nu,Ns,Dd,Dg,N6,DW,OE]at *;exact M _ _ F w h g o q r
 |_=>intro Q f F w h g o q r;simp only[Dk,OM,Er,Df,Es,De,Nt,Nu,Ns,Dd,Dg,N6,DW,OE]at *;exact deep _ _ _ _ _ h g o q r
theorem Yx(m:Nat)(b slots:List Nat)(I:List Value->World->Prop){c x y:Code}{Q:KS}{F:Nat->Value}(f:c=.seq x y)(e:Kb m b slots x=true)
  (o:S P T n x { Q with nrm:=λp w'=>I (By p slots) w' } F w)
  (q:∀vs g w',vs.length=slots.length->I vs w'->S P T n y Q (IH m b (I7 slots vs) g F) w'):S P T n c Q F w:=by
 subst f;have d:∀(G:Nat->Value) l,(By G l).length=l.length:=by intro G l;induction l<;>simp_all[By]
 refine IJ x _ _ F w o ?_ (λ_ _ _ _ h=>h) (λ_ _ _ h=>h) (λ_ _ _ _ h=>h);intro G w' r t;have:=q (By G slots) G w' (d G slots) t
 rwa[lG e r]at this
theorem kT(m:Nat)(b:List Nat)(e:Nat)(I:KW){c x y:Code}{Q:KS}{F:Nat->Value}(l:c=.seq x y)(f:Kb m b [e] x=true)
  (o:S P T n x { Q with nrm:=λp w'=>I (p e) w' } F w)(q:∀d g w',I d w'->S P T n y Q (IH m b [(e,d)] g F) w'):S P T n c Q F w:=
 Yx m b [e] (λvs w=>match vs with|[d]=>I d w|_=>False) l f o λvs g w' _ h=>match vs,h with|[d],h=>q d g w' h
theorem lB(m:Nat)(b:List Nat)(f h:Nat)(I:Value->KW){c x y:Code}{Q:KS}{F:Nat->Value}(q:c=.seq x y)(l:Kb m b [f,h] x=true)
  (r:S P T n x { Q with nrm:=λp w'=>I (p f) (p h) w' } F w)(t:∀d e g w',I d e w'->S P T n y Q (IH m b [(f,d),(h,e)] g F) w'):S P T n c Q F w:=
 Yx m b [f,h] (λvs w=>match vs with|[d,e]=>I d e w|_=>False) q l r λvs g w' _ o=>match vs,o with|[d,e],o=>t d e g w' o
end
class AK (α:Type) where
 sz:Nat
 enc:α->List Value
 len:∀x,(enc x).length=sz
 one:∀x,∀u∈enc x,u.oneCell'=true
 pos:0<sz
open AK (enc)
instance:AK Int:=⟨1,λx=>[.int .i64 x],λ_=>rfl,by intro x u hu;simp at hu;subst hu;rfl,by decide⟩
instance:AK Bool:=⟨1,λx=>[.bool x],λ_=>rfl,by intro x u hu;simp at hu;subst hu;rfl,by decide⟩
instance:AK ByteArray:=⟨1,λx=>[.string x],λ_=>rfl,by intro x u hu;simp at hu;subst hu;rfl,by decide⟩
structure SV where
 a:OA
 n:Nat
 c:Nat
def SV.v (s:SV):Value:=.slice s.a s.n s.c
instance:AK SV:=⟨1,λx=>[.slice x.a x.n x.c],λ_=>rfl,by intro x u hu;simp at hu;subst hu;rfl,by decide⟩
section
variable {α:Type} [AK α]
def Ac (l:List α):List Value:=l.flatMap enc
@[simp] theorem Y6:Ac ([]:List α)=[]:=rfl
@[simp] theorem DS (x:α) (l:List α):Ac (x::l)=enc x++Ac l:=rfl
@[simp] theorem Ew (l m:List α):Ac (l++m)=Ac l++Ac m:=by simp[Ac]
theorem KZ(l:List α):(Ac l).length=l.length*AK.sz α:=by
 induction l with
 |nil=>simp
 |cons x r b=>simp[b,AK.len,Jo,Xv]
theorem UY(l:List α):∀u∈Ac l,u.oneCell'=true:=by
 intro u b;obtain⟨x,_,c⟩:=VP.1 b;exact AK.one x u c
theorem Yy(l:List α)(i:Nat):Ac (l.drop i)=(Ac l).drop (i*AK.sz α):=by
 induction l generalizing i with
 |nil=>simp
 |cons x r b =>
  cases i with
  |zero=>simp
  |succ i =>
   simp only[List.drop_succ_cons,b,DS];rw[List.drop_append,AK.len,XG (l:=enc x) (by rw[AK.len,Jo];omega)];simp[Jo]
theorem ZT(l:List α)(i:Nat):Ac (l.take i)=(Ac l).take (i*AK.sz α):=by
 induction l generalizing i with
 |nil=>simp
 |cons x r b =>
  cases i with
  |zero=>simp
  |succ i =>
   simp only[Vd,b,DS];rw[XI,AK.len,Qj (l:=enc x) (by rw[AK.len,Jo];omega)];simp[Jo]
theorem tA(l:List α){x:α}(h:l[i]? = some x):((Ac l).drop (i*AK.sz α)).take (AK.sz α)=enc x:=by
 rw[<-Yy];have hi:=Qy.1 h;obtain⟨b,rfl⟩:=hi;rw[JS b,DS,XI,AK.len];simp[Qj (l:=enc l[i]) (by rw[AK.len];exact Qe _)]
theorem Q9(l:List α)(x:α)(h:i<l.length):(Ac l).take (i*AK.sz α)++enc x++(Ac l).drop (i*AK.sz α+AK.sz α)=Ac (l.set i x):=by simp_all[ZT,Jo,Nat.one_mul,Yy,Vn,Ew]
def AQ (w:World) (v:Value) (l:List α):Prop:=
 ∃a c,v=.slice a l.length c/\l.length<=c/\(l=[]\/∃b o,a=some ⟨b,o,none⟩/\At w b o (Ac l))
theorem AQ.shape{v:Value}{l:List α}(h:AQ w v l):∃a c,v=.slice a l.length c:=by obtain⟨a,c,h,_⟩:=h;exact⟨a,c,h⟩
theorem AQ.ext{v:Value}{l:List α}(h:AQ w v l)(e:Bp w w'):AQ w' v l:=by
 obtain⟨a,c,f,g,h⟩:=h;exact⟨a,c,f,g,h.imp id λ⟨b,o,p,d⟩=>⟨b,o,p,d.ext e⟩⟩
theorem AQ.up[h:Le w w']{v:Value}{l:List α}(a:AQ w v l):AQ w' v l:=a.ext h.e
theorem AQ.nil(w:World):AQ w (.slice none 0 0) ([]:List α):=⟨none,0,rfl,Qe _,.inl rfl⟩
theorem AQ.nil'(w:World)(a:OA)(c:Nat):AQ w (.slice a 0 c) ([]:List α):=⟨a,c,rfl,XE _,.inl rfl⟩
def Value.blk:Value->Option Nat
 |.slice (some a) _ _=>some a.block
 |_=>none
theorem AQ.fr{v:Value}{l:List α}(h:AQ w v l)(f:Fr D w w')(hd:∀b,Value.blk v=some b->¬D b):AQ w' v l:=by
 obtain⟨a,c,rfl,g,h⟩:=h;refine⟨a,c,rfl,g,h.imp id λ⟨b,o,e,d⟩=>⟨b,o,e,d.fr f ?_⟩⟩;subst e;exact hd b rfl
theorem AQ.lt{v:Value}{l:List α}(h:AQ w v l)(e:l≠[]):∃b,Value.blk v=some b/\b<w.heap.size:=by
 obtain⟨a,c,rfl,f,h⟩:=h;rcases h with h|⟨b,o,rfl,d⟩
 ·exact absurd h e
 ·refine⟨b,rfl,?_⟩
  cases l with
  |nil=>exact absurd rfl e
  |cons x r =>
   have:=AK.len x;have g:=AK.pos (α:=α)
   have h0:(Ac (x::r))[0]? = some ((enc x)[0]'(by omega)):=by
    rw[DS,VL (by omega)];simp
   exact XA w _ (d 0 _ h0)
theorem AQ.len{c:Nat}{l:List α}(h:AQ w (.slice a n c) l):n=l.length:=by obtain⟨a',d,b,_⟩:=h;cases b;rfl
theorem AQ.at{c:Nat}{l:List α}(h:AQ w (.slice a n c) l){x:α}(hi:l[i]? = some x):
  n=l.length/\∃b o,a=some ⟨b,o,none⟩/\At w b (o+i*AK.sz α) (enc x):=by
 obtain⟨a',g,e,_,h⟩:=h;cases e;refine⟨rfl,?_⟩;rcases h with rfl|⟨b,o,f,d⟩
 ·simp at hi
 ·refine⟨b,o,f,?_⟩;rw[<-tA l hi];exact d.sub _ _
theorem AQ.part{c:Nat}{l:List α}(h:AQ w (.slice a n c) l)(lo hi:Nat)(p:lo<=hi)(q:hi<=n):
  AQ w (.slice (if c=lo then a else a.map (·.add (lo*AK.sz α))) (hi - lo) (c - lo)) ((l.drop lo).take (hi - lo)):=by
 obtain⟨a',r,g,t,h⟩:=h;cases g;have d:((l.drop lo).take (hi - lo)).length=hi - lo:=by simp;omega
 refine⟨_,_,by rw[d],by rw[d];omega,?_⟩;rcases h with rfl|⟨b,o,rfl,e⟩
 ·left;simp
 ·by_cases f:c=lo
  ·left;apply Qn;rw[d];omega
  ·right;refine⟨b,o+lo*AK.sz α,by simp[f,Oj],?_⟩;rw[ZT,Yy];exact e.sub _ _
def AD (B:Nat) (e:TypeId) (w:World) (v:Value) (l:List α):Prop:=
 (l=[]/\∃a,v=.slice a 0 0)\/w.ownsRow B e (AK.sz α) v l.length (Ac l)
def AV (B:Nat) (v:Value):Nat->Prop:=λb=>B<=b/\Value.blk v=some b/\∀a,v≠.slice a 0 0
theorem AD.nil(B:Nat)(e:TypeId)(w:World):AD B e w (.slice none 0 0) ([]:List α):=.inl ⟨rfl,_,rfl⟩
theorem AD.nil'(B:Nat)(e:TypeId)(w:World)(a:OA):AD B e w (.slice a 0 0) ([]:List α):=.inl ⟨rfl,_,rfl⟩
theorem AD.sl{e:TypeId}{v:Value}{l:List α}(h:AD B e w v l):AQ w v l:=by
 rcases h with⟨rfl,a,rfl⟩|h
 ·exact AQ.nil' w a 0
 ·rcases h.2 with⟨rfl,o⟩|⟨g,cap,d,rfl,hb,p,f,q,r,b⟩
  ·have:l=[]:=Qn o;subst this;exact AQ.nil w
  ·refine⟨_,_,rfl,f,.inr ⟨g,0,rfl,?_⟩⟩;intro j v c;rw[cell_of_row w g (0+j) d e (0,0) p];rw[<-b,Vh]at c;split at c
   ·simpa using c
   ·cases c
theorem AD.fr{e:TypeId}{v:Value}{l:List α}(h:AD B e w v l)(d:Fr D w w')(hd:∀b,B<=b->Value.blk v=some b->¬D b):AD B e w' v l:=by
 rcases h with h|h
 ·exact .inl h
 ·refine .inr ⟨h.1,?_⟩;rcases h.2 with f|⟨g,cap,c,rfl,hb,o,rest⟩
  ·exact .inl f
  ·exact .inr ⟨g,cap,c,rfl,hb,d.blk o (hd g hb rfl),rest⟩
theorem AD.not0{e:TypeId}{v:Value}{l:List α}(h:AD B e w v l)(b:l≠[])(a:OA):v≠.slice a 0 0:=by
 intro c;subst c;obtain⟨a',f,d⟩:=h.sl.shape;injection d with _ h2 _;exact b (Qn h2.symm)
theorem AD.wr{B':Nat}{e:TypeId}{v:Value}{l:List α}(h:AD B e w v l){b:Nat}(hb:AV B' v b):b<w.heap.size:=by
 rcases h with⟨rfl,a,rfl⟩|h
 ·exact absurd rfl (hb.2.2 a)
 ·rcases h.2 with⟨rfl,f⟩|⟨g,cap,c,rfl,_,d,rest⟩
  ·cases hb.2.1
  ·have:=hb.2.1;simp only[Value.blk]at this;cases this;exact Ad d
theorem AD.ext{e:TypeId}{v:Value}{l:List α}(h:AD B e w v l)(b:Bp w w'):AD B e w' v l:=h.fr b λ_ _ _ h=>h
theorem AD.mono{B':Nat}{e:TypeId}{v:Value}{l:List α}(h:AD B e w v l)(hb:B'<=B):AD B' e w v l:=by
 rcases h with h|h
 ·exact .inl h
 ·refine .inr ⟨h.1,h.2.imp id ?_⟩;rintro⟨g,cap,b,c,d,rest⟩;exact⟨g,cap,b,c,by omega,rest⟩
theorem AD.up{e:TypeId}[h:Le w w']{v:Value}{l:List α}(a:AD B e w v l):AD B e w' v l:=a.ext h.e
theorem AD.older{e:TypeId}[h:Le u' u]{v:Value}{l:List α}(a:AD u.heap.size e w v l):AD u'.heap.size e w v l:=a.mono h.e.size
theorem AD.lt{e:TypeId}{v:Value}{l:List α}(h:AD B e w v l)(b:l≠[]):∃g,Value.blk v=some g/\B<=g/\g<w.heap.size:=by
 rcases h with⟨h,_⟩|h
 ·exact absurd h b
 ·rcases h.2 with⟨_,c⟩|⟨g,cap,d,rfl,hb,f,rest⟩
  ·exact absurd (Qn c) b
  ·exact⟨g,rfl,hb,Ad f⟩
section
variable {P:Program} {k:KW} {pn:PW} {w:World}
theorem Bv{t e:TypeId}{z:Value}{d:Nat}[g:DQ P t e][p:AX P e z (AK.sz α) d]{c:Nat}{l:List α}{x:α}(h:AQ w (.slice a n c) l)(hi:l[i]? = some x)
  (q:∀b o,At w b o (enc x)->k (.pointer (some ⟨b,o,none⟩)) w):AI P (Instr.indexAt t (.slice a n c) (.int .i64 i)) k pn w:=by
 obtain⟨rfl,b,o,rfl,f⟩:=h.at hi;have r:i<l.length:=(Qy.1 hi).1;exact AI.of (YO g p (by omega) (by omega) w) (q _ _ f)
theorem CL{t e:TypeId}{z:Value}{d:Nat}[g:DQ P t e][p:AX P e z (AK.sz α) d]{k:Value->Prop}{c:Nat}{l:List α}{x:α}(h:AQ w (.slice a n c) l)(hi:l[i]? = some x)
  (q:∀b o,At w b o (enc x)->Value.blk (.slice a n c)=some b->k (.pointer (some ⟨b,o,none⟩))):Ar P (Instr.indexAt t (.slice a n c) (.int .i64 i)) D k w:=by
 obtain⟨rfl,b,o,rfl,f⟩:=h.at hi;have r:i<l.length:=(Qy.1 hi).1;rw[Iv];exact⟨_,λw' _=>YO g p (by omega) (by omega) w',q _ _ f rfl⟩
theorem AP{t:TypeId}[d:One P t]{k:Value->Prop}{b o:Nat}{v:Value}(h:w.cell? ⟨b,o,none⟩=some v)(hd:¬D b)(e:k v):Ar P (Instr.loadAt t (.pointer (some ⟨b,o,none⟩))) D k w:=by
 rw[Iv];exact⟨v,λw' c=>by simp[Instr.loadAt,Instr.sureAddr,Zy d (c.cell h hd)],e⟩
theorem Ch{t:Nat}[d:FZ P t n]{k:Value->Prop}{b o:Nat}{cs:List Value}(h:At w b o cs)(e:cs.length=n)(hd:¬D b)(f:k (.agg cs.toArray)):Ar P (Instr.loadAt t (.pointer (some ⟨b,o,none⟩))) D k w:=by
 rw[Iv];exact⟨_,λw' c=>by simp[Instr.loadAt,Instr.sureAddr,kU d (h.fr c hd) e],f⟩
def PB:Option Nat->Option Value
 |none=>none
 |some n=>some (.int .i64 n)
theorem Sf{t e:TypeId}{z:Value}{sz b:Nat}(g:DQ P t e)(l:AX P e z sz b){c:Nat}(lo hi:Option Nat)(d:lo.getD 0<=hi.getD n)(f:hi.getD n<=c)(w:World):
  (Instr.sliceAt t (.slice a n c) (PB lo) (PB hi) none).run P w=.ok (.slice (if c=lo.getD 0 then a else a.map (·.add (lo.getD 0*sz))) (hi.getD n - lo.getD 0) (c - lo.getD 0)) w:=by
 obtain⟨j,o,_,p,_⟩:=info_parts l.h
 cases lo<;>cases hi<;>simp only[JQ,QP]at d f <;>
  simp[Instr.sliceAt,Instr.slice,Instr.sliceBounds,Instr.sliceBound,PB,underlying,g.h,asIntOf,sizeOf,typeInfo,o,p,d,f]
theorem Wv{t e:TypeId}{z:Value}{b:Nat}[g:DQ P t e][o:AX P e z (AK.sz α) b]{k:Value->Prop}{c:Nat}{l:List α}(lo hi:Option Nat)(h:AQ w (.slice a n c) l)(f:lo.getD 0<=hi.getD n)(p:hi.getD n<=n)
  (q:∀a' d,AQ w (.slice a' (hi.getD n - lo.getD 0) d) ((l.drop (lo.getD 0)).take (hi.getD n - lo.getD 0))->k (.slice a' (hi.getD n - lo.getD 0) d)):Ar P (Instr.sliceAt t (.slice a n c) (PB lo) (PB hi) none) D k w:=by
 have r:n<=c:=by obtain⟨a',d,v,x,_⟩:=h;cases v;exact x
 rw[Iv];exact⟨_,λw' _=>Sf g o lo hi f (by omega) w',q _ _ (h.part _ _ f p)⟩
theorem Yf{t ty e:TypeId}{z:Value}{sz f:Nat}(C:DQ P t e)(he:AX P e z sz f)(M:AK.sz α=sz)(p:z.cells.size=sz){v x:Value}{l m:List α}
  (d:AD B e w v l)(hS:AQ w x m)(hb:(l.length+m.length)*f<=140737488355328)(H:l.length+m.length<=maxLen)(O:B<=w.heap.size):
  ∃E w',(Builtin.append_ #[t,t] ty #[v,x]).run P w=.ok E w'/\AD B e w' E (l++m)/\Fr (AV B v) w w':=by
 obtain⟨i,hi,Q,I,q⟩:=info_parts he.h;subst M;have hp:=AK.pos (α:=α);obtain⟨R,S,rfl,a1,T⟩:=hS;by_cases y:m=[]
 ·subst y;rw[QE];refine⟨v,w,?_,d,Fr.refl _ w⟩;rcases d with⟨rfl,a,rfl⟩|d
  ·cases R<;>cases a<;>simp[Builtin.append_,run_underlying C.h,sizeOf,typeInfo,hi,Builtin.lenOf,Builtin.firstCells,loadCells,loadCellsFrom,storeCells]
  ·rcases d.2 with⟨rfl,hn⟩|⟨g,cap,J,rfl,a2,hg,U,_⟩
   ·cases R<;>simp[Builtin.append_,run_underlying C.h,sizeOf,typeInfo,hi,Builtin.lenOf,Builtin.firstCells,loadCells,loadCellsFrom]
   ·cases R<;>simp[Builtin.append_,run_underlying C.h,sizeOf,typeInfo,hi,Builtin.lenOf,Builtin.firstCells,U,storeCells,loadCells,loadCellsFrom]
 rcases T with T|⟨b,o,rfl,V⟩
 ·exact absurd T y
 have c:∀j u,(Ac m)[j]? = some u->w.cell? ((⟨b,o,none⟩:Addr).add j)=some u:=λj u K=>by rw[Oj];exact V j u K
 have F:(Ac m).length=m.length*AK.sz α:=KZ m
 have d:(l=[]/\∃a,v=.slice a 0 0)\/(w.ownsRow B e (AK.sz α) v l.length (Ac l)/\∀a,v≠.slice a 0 0):=by
  by_cases W:∃a,v=.slice a 0 0
  ·left;obtain⟨a,rfl⟩:=W;obtain⟨a',c',I⟩:=d.sl.shape;refine⟨Qn ?_,a,rfl⟩;injection I with _ L _;exact L.symm
  ·rcases d with h|h
   ·exact absurd h.2 W
   ·exact .inr ⟨h,λa ha=>W ⟨a,ha⟩⟩
 rcases d with⟨rfl,a,rfl⟩|⟨d,X⟩
 ·cases a with
  |none =>
   obtain⟨E,w',Y,L,Z,_⟩:=run_append_own (P:=P) w B t ty e i z (AK.sz α) f C.h hi Q I q p hp _ 0 [] (World.ownsRow_nil w B e (AK.sz α)) ⟨b,o,none⟩ m.length S (Ac m) F c (UY m) (by simpa using H) (by simpa using hb) O;refine⟨E,w',Y,.inr (by simpa using L),(Fr.grown Z λr o G=>by simp[Value.ownBlock]at G).mono λj _ K=>?_⟩;simp[Value.ownBlock]at K
  |some a =>
   have a3:0<m.length:=by cases m;exact absurd rfl y;simp
   have G:=run_append_grow (P:=P) w t ty e i z C.h hi Q a 0 0 [] (by simp) (by simp) ⟨b,o,none⟩ m.length S (Ac m) (by rw[F,I]) c (by omega) (by simp only[maxLen]at H;simp at H;omega)
    (by rw[q];exact growslice_fits (by omega) (by simpa using hb))
   refine⟨_,_,G,.inr ⟨by simpa using F,.inr ⟨w.heap.size,grownCap w (0+m.length) 0 e,_,by simp,O,heap_alloc_new w.drew _,?_,?_,?_,?_⟩⟩,(show Bp w w.drew from⟨rfl,rfl,rfl,Qe _,λ_ _ _=>rfl,λ_ _ h _=>h⟩).t (Bp.alloc w.drew _) |>.fr⟩
   ·have:=grownCap_ge w (0+m.length) 0 e;simpa using this
   ·exact grownCap_le_maxLen w _ 0 e (by simpa using H)
   ·have a0:=grownCap_ge w (0+m.length) 0 e;simp only[Array.size_append,List.size_toArray,size_zeroCells,p,F,QZ,JO,<-Jo]at a0 ⊢;congr 1;omega
   ·simp only[Array.toList_append,Je,JO];rw[<-F];exact V6
 ·obtain⟨E,w',Y,L,Z,_⟩:=run_append_own (P:=P) w B t ty e i z (AK.sz α) f C.h hi Q I q p hp v l.length (Ac l) d ⟨b,o,none⟩ m.length S (Ac m) F c (UY m) H hb O;refine⟨E,w',Y,.inr (by simpa using L),(Fr.grown Z λr o G ho=>?_).mono λj _ K=>?_⟩
  ·rcases d.2 with⟨rfl,_⟩|⟨g,cap,J,rfl,_,hg,_⟩
   ·cases G
   ·cases G;rw[hg]at ho;cases ho;rfl
  have A:v.ownBlock=some j:=K.symm;refine⟨(d.lt j A).1,?_,X⟩;rcases d.2 with⟨rfl,_⟩|⟨g,cap,J,rfl,_⟩
  ·cases A
  ·exact A
end
end
section
variable {α:Type} [AK α] {P:Program} {k:KW} {pn:PW} {w:World}
theorem Mu{w:World}{v:Value}(f:Fr (AV u.heap.size v) w w'):Gl u w w':=f.stw λ_ hi=>hi.1
theorem NI{t ty e:TypeId}{z:Value}{sz b:Nat}[g:DQ P t e][h:AX P e z sz b]{v x:Value}{l m:List α}(c:AK.sz α=sz/\z.cells.size=sz)
  (o:AD u.heap.size e w v l)(p:AQ w x m)[q:Le u w](hb:(l.length+m.length)*b<=140737488355328/\l.length+m.length<=9223372036854775807)
  (r:∀d w',AD u.heap.size e w' d (l++m)->Fr (AV u.heap.size v) w w'->Gl u w w'->k d w'):AI P (Builtin.append_ #[t,t] ty #[v,x]) k pn w:=by
 obtain⟨d,w',y,A,f⟩:=Yf (ty:=ty) g h c.1 c.2 o p hb.1 (by unfold maxLen;omega) q.e.size;exact AI.of y (r _ _ A f (Mu f))
theorem Lk.sl{w:World}{b:Nat}{cs:Array Value}{e:TypeId}(h:Lk w w' b cs e){l:List α}(c:cs.toList=Ac l)(d:l.length=n):AQ w' (.slice (some ⟨b,0,none⟩) n n) l:=by
 subst d;refine⟨_,_,rfl,Qe _,.inr ⟨b,0,rfl,?_⟩⟩;rw[<-c];exact At.blk h.blk
theorem Lk.own{w:World}{b:Nat}{cs:Array Value}{e:TypeId}(h:Lk w w' b cs e){l:List α}(c:cs.toList=Ac l)(d:l.length=n)(g:n<=9223372036854775807)(f:B<=w.heap.size):AD B e w' (.slice (some ⟨b,0,none⟩) n n) l:=by
 subst d;refine .inr ⟨KZ l,.inr ⟨b,_,cs,rfl,Qw f h.lo,h.blk,Qe _,by unfold maxLen;omega,?_,?_⟩⟩
 ·rw[<-KZ,<-c];simp
 ·rw[c,Qj (by rw[KZ];exact Qe _)]
theorem Kx(l:List Value)(off:Nat):∀(vs:List Value) (j:Nat),off+j+vs.length<=l.length ->
  (vs.zipIdx j).foldl (λ(cs:Array Value) x=>cs.setIfInBounds (off+x.2) x.1) l.toArray=(l.take (off+j)++vs++l.drop (off+j+vs.length)).toArray:=by
 intro vs
 induction vs generalizing l with
 |nil=>intro j _;simp
 |cons v r b =>
  intro j h;simp only[List.zipIdx_cons,JY,QA]at h ⊢;have e:l.toArray.setIfInBounds (off+j) v=(l.set (off+j) v).toArray:=by simp
  rw[e,b (l.set (off+j) v) (j+1) (by simp;omega)];congr 1
  have c:(l.set (off+j) v).take (off+(j+1))=l.take (off+j)++[v]:=by
   rw[Vn,if_pos (by omega)];rw[XI,Qm,VB (by omega),show off+(j+1) - (off+j)=1 by omega,Qj (by simp;omega)];simp
  have d:(l.set (off+j) v).drop (off+(j+1)+r.length)=l.drop (off+j+(r.length+1)):=by
   rw[List.drop_set_of_lt (by omega)];congr 1;omega
  rw[c,d];simp
def Hx (place:Nat->Option (Nat×Nat)):List Value->List (Nat×Value)->Option (List Value)
 |cs,[]=>some cs
 |cs,(i,v)::r=>match place i with
  |some (off,size)=>match Nat.beq v.cells.toList.length size,Nat.ble (off+size) cs.length with
   |true,true=>Hx place (cs.take off++v.cells.toList++cs.drop (off+size)) r
   |_,_=>none
  |none=>none
theorem iL(b:Nat->Option (Nat×Nat)):∀(c:List (Nat×Value)) (cs d:List Value),Hx b cs c=some d->Instr.fill b cs.toArray c=some d.toArray
 |[],cs,d,h=>by simp only[Hx,JK]at h;subst h;rfl
 |(i,v)::r,cs,d,h=>by
  simp only[Hx]at h;simp only[Instr.fill];split at h
  ·rename_i off size f;simp only[f];split at h
   ·rename_i g l;have e:=QD g;have o:=Vf l;have p:v.cells.size=size:=by simpa using e
    rw[if_neg (by simp_all)];rw[show v.cells.zipIdx=(v.cells.toList.zipIdx 0).toArray from Array.ext' (by simp)];rw[List.foldl_toArray];have:=Kx cs off v.cells.toList 0 (by rw[e];omega);simp only[Xy,e]at this;rw[this];exact iL b r _ _ h
   ·cases h
  ·cases h
def Lx (P:Program) (t:TypeId) (places:List (Nat×Nat)):Bool:=
 match P.underlying t with
 |some (.struct fs)=>decide (fs.toList.map (λf=>(f.offset,P.cellsOf f.type))=places) && fs.all (λf=>(P.info? f.type).isSome)
 |_=>false
theorem zLt{P:Program}{t:TypeId}{b:List (Nat×Nat)}(h:Lx P t b=true):
  ∃fs,P.underlying t=some (.struct fs)/\fs.toList.map (λf=>(f.offset,P.cellsOf f.type))=b/\fs.all (λf=>(P.info? f.type).isSome)=true:=by
 unfold Lx at h;split at h
 ·rename_i fs c;rw[Qz]at h;exact⟨fs,c,of_decide_eq_true h.1,h.2⟩
 ·cases h
class Ab (P:Program) (t:TypeId) (places:outParam (List (Nat×Nat))) (zero:outParam (List Value)):Prop where
 h:Lx P t places=true:=by kernel_rfl
 z:(P.info? t).bind (·.zero)=some (.agg zero.toArray):=by kernel_rfl
theorem zNr{fs:Array Field}{w:World}(h:fs.all (λf=>(P.info? f.type).isSome)=true):
  (fs.mapM (λf=>do pure (f.offset,<-sizeOf f.type):Field->Sem (Nat×Nat))).run P w=.ok (fs.toList.map (λf=>(f.offset,P.cellsOf f.type))).toArray w:=by
 rw[Array.mapM_eq_mapM_toList,Sem.run_map]
 have b:∀l:List Field,(∀f∈l,(P.info? f.type).isSome=true)->(l.mapM (λf=>do pure (f.offset,<-sizeOf f.type):Field->Sem (Nat×Nat))).run P w=.ok (l.map (λf=>(f.offset,P.cellsOf f.type))) w:=by
  intro l
  induction l with
  |nil=>intro _;rfl
  |cons f r d =>
   intro c;obtain⟨i,hi⟩:=Xx.1 (c f (Qs ..));simp only[List.mapM_cons,Qo,sizeOf,typeInfo,run_program,Qh,hi,Jd];have:=d (λg e=>c g (QF _ e));simp only[sizeOf,typeInfo]at this;rw[this];simp[Program.cellsOf,hi]
 rw[b _ (by intro f o;rw[Array.all_eq_true]at h;obtain⟨i,hi,rfl⟩:=Array.mem_iff_getElem.1 (Array.mem_toList_iff.1 o);exact h i hi)];rfl
theorem qM{t:TypeId}{b:List (Nat×Nat)}{zero:List Value}(f:Ab P t b zero){c:List (Nat×Value)}{cs:List Value}(l:Hx (Ij b) zero c=some cs)(w:World):
  (Instr.build t c.toArray).run P w=.ok (.agg cs.toArray) w:=by
 obtain⟨fs,o,p,q⟩:=zLt f.h;obtain⟨i,hi,r⟩:=Option.bind_eq_some_iff.1 f.z;have g:=zNr (P:=P) (w:=w) q;rw[p]at g;have e:(λx=>b.toArray[x]?)=Ij b:=by funext x;rw[Dw];simp
 have d:=iL _ c zero cs l;simp only[Instr.build,zeroValue,typeInfo,underlying,Qo,run_program,Qh,hi,r,Jd,o,g,Value.cells,e,d]
theorem AJ{t:TypeId}{b:List (Nat×Nat)}{zero:List Value}[d:Ab P t b zero]{c:List (Nat×Value)}{cs:List Value}(e:Hx (Ij b) zero c=some cs)(f:k (.agg cs.toArray) w):
  AI P (Instr.build t c.toArray) k pn w:=AI.of (qM d e w) f
theorem As{t:TypeId}{b:List (Nat×Nat)}{zero:List Value}[d:Ab P t b zero]{k:Value->Prop}{c:List (Nat×Value)}{cs:List Value}(e:Hx (Ij b) zero c=some cs)(f:k (.agg cs.toArray)):
  Ar P (Instr.build t c.toArray) D k w:=by rw[Iv];exact⟨_,λw' _=>qM d e w',f⟩
def E0 (vs:List Value) (i:Nat):List (Nat×Value):=match vs with
 |[]=>[]
 |v::r=>(i,v)::E0 r (i+1)
theorem tL(size:Nat):∀(vs:List Value) (d:List (List Value)) (i:Nat) (pre b:List Value),vs.map (λv=>v.cells.toList)=d->(∀cs∈d,cs.length=size)->pre.length=i*size->b.length=vs.length*size ->
  Instr.fill (λi=>some (i*size,size)) (pre++b).toArray (E0 vs i)=some (pre++d.flatten).toArray
 |[],d,i,pre,b,h,_,_,f=>by
  simp only[JP]at h;subst h;have:b=[]:=Qn (by simpa using f);subst this;simp[E0,Instr.fill]
 |v::r,d,i,pre,b,h,o,e,f=>by
  cases d with
  |nil=>simp at h
  |cons c d =>
   simp only[QS,List.cons.injEq]at h;have g:c.length=size:=o c (Qs ..);have q:v.cells.size=size:=by rw[<-g,<-h.1];simp
   simp only[QA,Jo,Nat.one_mul]at f;simp only[E0,Instr.fill];rw[if_neg (by simp_all)];rw[show v.cells.zipIdx=(v.cells.toList.zipIdx 0).toArray from Array.ext' (by simp),List.foldl_toArray];have p:=Kx (pre++b) (i*size) v.cells.toList 0 (by simp_all);simp only[Xy]at p;rw[p,h.1,g];have t:(pre++b).take (i*size)=pre:=by simp_all
   have x:(pre++b).drop (i*size+size)=b.drop size:=by
    rw[List.drop_append,XG (by omega),Je];congr 1;omega
   rw[t,x];have:=tL size r d (i+1) (pre++c) (b.drop size) h.2 (λcs l=>o cs (QF _ l)) (by simp[e,g,Jo]) (by simp;omega);rw[this];simp
theorem RS{t e:TypeId}{z:Value}{sz d:Nat}(y:DQ P t e)(E:AX P e z sz d)(f:AK.sz α=sz){vs:List Value}{xs:List α}(A:vs.map (λv=>v.cells.toList)=xs.map enc)(C:xs.length=n)(hb:n*sz<=16777216)(w:World):
  (Instr.buildSlice t n (E0 vs 0).toArray).run P w=.ok (.slice (some ⟨w.heap.size,0,none⟩) n n) (w.alloc (.cells (Ac xs).toArray e)):=by
 obtain⟨i,hi,F,G,_⟩:=info_parts E.h;subst f;have c:vs.length=n:=by have:=congrArg List.length A;simpa[C]using this
 have b:=tL (AK.sz α) vs (xs.map enc) 0 [] ((Array.range (n*AK.sz α)).map (λj=>(if n*AK.sz α=0 then #[] else z.cells)[j % (if n*AK.sz α=0 then #[] else z.cells).size]!)).toList A (by intro cs g;obtain⟨x,_,rfl⟩:=Qq.1 g;exact AK.len x) (by simp) (by simp[c]);simp only[Je,Jz]at b;have l:(xs.map enc).flatten=Ac xs:=by simp[Ac,List.flatMap]
 rw[l]at b;by_cases h0:n*AK.sz α=0
 ·have I:=AK.pos (α:=α);have o:n=0:=by rcases Nat.mul_eq_zero.1 h0 with h|h;exact h;omega
  subst o;have p:vs=[]:=Qn c;have q:xs=[]:=Qn C;subst p;subst q;have H:Array.range 0=#[]:=Array.eq_empty_of_size_eq_zero (by simp);simp[Instr.buildSlice,sizeOf,typeInfo,underlying,y.h,hi,E0,Instr.fill,newRow,H]
 ·simp only[h0,if_false]at b;have r:¬(n*AK.sz α > 2 ^ 24):=by omega
  simp only[Instr.buildSlice,sizeOf,typeInfo,underlying,zeroValue,Qo,run_program,Qh,y.h,hi,G,F,Jd,h0,if_false,r,b];simp[newRow]
theorem LE{t e:TypeId}{z:Value}{sz c:Nat}[g:DQ P t e][h:AX P e z sz c](xs:List α)(d:AK.sz α=sz){vs:List Value}(l:vs.map (λv=>v.cells.toList)=xs.map enc)(f:xs.length=n)(hb:n*sz<=16777216)
  (o:∀b w',Lk w w' b (Ac xs).toArray e->AQ w' (.slice (some ⟨b,0,none⟩) n n) xs->k (.slice (some ⟨b,0,none⟩) n n) w'):AI P (Instr.buildSlice t n (E0 vs 0).toArray) k pn w:=
 AI.of (RS g h d l f hb w) (o _ _ (Lk.mk' w _ e) ((Lk.mk' w _ e).sl rfl f))
theorem HS{t e:TypeId}{z:Value}{sz c:Nat}[o:DQ P t e][p:AX P e z sz c](x:α)(d:AK.sz α=sz){v:Value}(g:v.cells.toList=enc x)(hb:sz<=16777216)
  (h:∀b w',AC w w'->w.heap.size<w'.heap.size->AQ w' (.slice (some ⟨b,0,none⟩) 1 1) [x]->k (.slice (some ⟨b,0,none⟩) 1 1) w'):AI P (Instr.buildSlice t 1 #[(0,v)]) k pn w:=
 LE (n:=1) (vs:=[v]) [x] d (by simp[g]) rfl (by omega) λb w' f l=>h b w' ⟨f.ext⟩ (by have:=Ad f.blk;have:=f.lo;omega) l
theorem Ax{t ty e:TypeId}{z:Value}{sz b:Nat}[o:DQ P t e][p:AX P e z sz b]{v x:Value}{l:List α}{y:α}(c:AK.sz α=sz/\z.cells.size=sz)
  (f:AD u.heap.size e w v l)(g:AQ w x [y])[q:Le u w](hb:(l.length+1)*b<=140737488355328/\l.length+1<=9223372036854775807)
  (h:∀d w',AD u.heap.size e w' d (l++[y])->Fr (AV u.heap.size v) w w'->Gl u w w'->k d w'):AI P (Builtin.append_ #[t,t] ty #[v,x]) k pn w:=
 NI c f g hb h
end
def splice (cur:List Value) (off:Nat) (vs:List Value):List Value:=cur.take off++vs++cur.drop (off+vs.length)
def Rn (P:Program) (t n:Nat):Bool:=match P.info? t with|some i=>Nat.beq i.size n|none=>false
class BZ (P:Program) (t:TypeId) (n:outParam Nat):Prop where
 h:Rn P t n=true:=by kernel_rfl
theorem Fr.setRow(w:World)(g:Nat)(cs:Array Value):Fr (λb=>b=g) w (w.setRow g cs):=⟨rfl,rfl,rfl,by simp,λb _ hb=>setRow_other w g b cs hb,λb o hb c=>by
 unfold World.setRow;rw[Jv];split
 ·rw[hb];cases o<;>first|rfl|cases c
 ·exact hb⟩
section
variable {P:Program} {k:KW} {pn:PW} {w:World}
theorem zPF{t:Nat}(h:Rn P t n=true)(w:World):(sizeOf t).run P w=.ok n w:=by
 unfold Rn at h;split at h
 ·rename_i i hi;simp only[sizeOf,typeInfo,Qo,run_program,Qh,hi,Jd];rw[QD h]
 ·cases h
theorem lH{t:TypeId}(o:BZ P t n){g off:Nat}{b:Array Value}{e:TypeId}{v:Value}{vs:List Value}(p:w.heap[g]? = some (.cells b e (0,0)))(d:v.cells.toList=vs)(q:vs.length=n)(f:off+n<=b.size)(r:∀u∈vs,u.oneCell'=true):
  (Instr.storeAt t (.pointer (some ⟨g,off,none⟩)) v).run P w=.ok () (w.setRow g (splice b.toList off vs).toArray):=by
 have l:=run_storeCells_at P g off e vs 0 b w p (by omega) r;simp only[Xy]at l;have c:v.cells.size=n:=by rw[<-q,<-d];simp
 simp only[Instr.storeAt,Instr.sureAddr,storeVar,Qo,Jd,Qh,zPF o.h,c,d];simp[l,splice]
theorem YF{t:TypeId}[h:BZ P t n]{g off:Nat}{c:Array Value}{e:TypeId}{v:Value}{vs:List Value}(f:w.heap[g]? = some (.cells c e (0,0)))(l:v.cells.toList=vs)(o:vs.length=n)(d:off+n<=c.size)(p:∀u∈vs,u.oneCell'=true)
  (q:∀w',w'.heap[g]? = some (.cells (splice c.toList off vs).toArray e (0,0))->Fr (λb=>b=g) w w'->w'.heap.size=w.heap.size->k undef w'):Ed P (Instr.storeAt t (.pointer (some ⟨g,off,none⟩)) v) k pn w:=
 Ed.of (lH h f l o d p) (q _ (setRow_heap w g c _ e _ f) (Fr.setRow w g _) (by simp))
variable {α:Type} [AK α]
theorem AD.blk{e:TypeId}{c:Nat}{l:List α}(h:AD B e w (.slice a n c) l)(q:l≠[]):
  ∃g b,a=some ⟨g,0,none⟩/\n=l.length/\B<=g/\w.heap[g]? = some (.cells b e (0,0))/\n<=c/\c<=maxLen/\b.size=c*AK.sz α/\b.toList.take (n*AK.sz α)=Ac l:=by
 rcases h with⟨h,_⟩|h
 ·exact absurd h q
 ·rcases h.2 with⟨_,r⟩|⟨g,cap,b,t,hb,v,f,o,p,d⟩
  ·exact absurd (Qn r) q
  ·cases t;exact⟨g,b,rfl,rfl,hb,v,f,o,p,d⟩
theorem Fs{t e:TypeId}{z:Value}{sz d:Nat}[v:DQ P t e][y:AX P e z sz d](f:AK.sz α=sz){c:Nat}{l:List α}{x:α}(h:AD B e w (.slice a n c) l)(hi:l[i]? = some x)
  (A:∀g,Value.blk (.slice a n c)=some g->B<=g->At w g (i*sz) (enc x)->k (.pointer (some ⟨g,i*sz,none⟩)) w):AI P (Instr.indexAt t (.slice a n c) (.int .i64 i)) k pn w:=by
 have C:i<l.length:=(Qy.1 hi).1;obtain⟨g,E,rfl,rfl,hb,I,F,G,H,p⟩:=h.blk (by intro h0;subst h0;simp at C);refine AI.of (YO v y (b:=g) (o:=0) (by omega) (by omega) w) ?_;obtain⟨_,b,o,q,r⟩:=h.sl.at hi;cases q;subst f;have:=A g rfl hb (by simpa using r);simpa using this
theorem zNw(b vs:List Value)(off:Nat)(h:off+vs.length<=b.length):(splice b off vs).length=b.length:=by simp[splice];omega
theorem zL4(b vs:List Value)(off m:Nat)(h:off+vs.length<=m)(c:m<=b.length):(splice b off vs).take m=splice (b.take m) off vs:=by
 simp only[splice,XI,Qb,Qm];rw[VB (by omega),Xz,Nat.min_eq_right (by omega),Xz,VB (by omega),Qj (l:=vs) (by omega)];congr 1;rw[List.drop_take]
theorem AD.stored{e:TypeId}{v:Value}{l l':List α}{g off:Nat}{vs:List Value}(h:AD B e w v l)(hb:Value.blk v=some g)(A:l≠[])(d:l'.length=l.length)(o:off+vs.length<=l.length*AK.sz α)(t:splice (Ac l) off vs=Ac l'):
  ∃b,w.heap[g]? = some (.cells b e (0,0))/\off+vs.length<=b.size/\∀w',w'.heap[g]? = some (.cells (splice b.toList off vs).toArray e (0,0))->AD B e w' v l':=by
 obtain⟨a,c,rfl⟩:=h.sl.shape;obtain⟨C,b,rfl,_,x,E,p,y,q,f⟩:=h.blk A;cases hb;have r:l.length*AK.sz α<=b.toList.length:=by simp[q];exact Ji _ p
 refine⟨b,E,by simp at r;omega,λw' z=>.inr ⟨KZ l',.inr ⟨C,c,_,by rw[d],x,z,by rw[d];exact p,y,?_,?_⟩⟩⟩
 ·simp[zNw _ _ _ (show off+vs.length<=b.toList.length by omega),q]
 ·rw[d,List.toList_toArray,zL4 _ _ _ _ o r,f,t]
theorem CZ{t:TypeId}{sz:Nat}[H:BZ P t sz](f:AK.sz α=sz){e:TypeId}{v:Value}{l:List α}{g:Nat}{u:Value}(x:α)(h:AD B e w v l)(hb:Value.blk v=some g)(hi:i<l.length)(r:u.cells.toList=enc x)
  (y:∀w',AD B e w' v (l.set i x)->Fr (AV B v) w w'->w'.heap.size=w.heap.size->k undef w'):Ed P (Instr.storeAt t (.pointer (some ⟨g,i*sz,none⟩)) u) k pn w:=by
 subst f
 have o:i*AK.sz α+(enc x).length<=l.length*AK.sz α:=by
  rw[AK.len];calc i*AK.sz α+AK.sz α=(i+1)*AK.sz α:=by rw[Jo,Nat.one_mul]
   _<=_:=Ji _ hi
 obtain⟨z,A,c,C⟩:=h.stored (l':=l.set i x) (vs:=enc x) (off:=i*AK.sz α) hb (by intro h0;subst h0;simp at hi) (by simp) o (by unfold splice;rw[AK.len];exact Q9 l x hi);refine YF A r (AK.len x) (by rw[AK.len]at c;exact c) (AK.one x) λw' E F G=>y w' (C w' E) (F.mono λb _ p=>?_) G;subst p
 have q:B<=b:=by
  obtain⟨I,d,q,_⟩:=h.lt (by intro h0;subst h0;simp at hi);rw[hb]at d;cases d;exact q
 exact⟨q,hb,h.not0 (by intro h0;subst h0;simp at hi)⟩
theorem vE(z:Array Value)(x:α)(c:z.toList=enc x)(n:Nat):(madeCells z (n*AK.sz α)).toList=Ac (List.replicate n x):=by
 have b:z.size=AK.sz α:=by rw[<-AK.len x,<-c];simp
 have d:=AK.pos (α:=α);apply Vl;intro j
 have e:∀n j,(Ac (List.replicate n x))[j]? = if j<n*AK.sz α then(enc x)[j % AK.sz α]? else none:=by
  intro n
  induction n with
  |zero=>intro j;simp
  |succ n f =>
   intro j;simp only[List.replicate_succ,DS,List.getElem?_append,AK.len];by_cases h:j<AK.sz α
   ·have:j<(n+1)*AK.sz α:=by rw[Jo];omega
    simp[h,this,Yl h]
   ·simp only[h,if_false,f];have g:(j - AK.sz α) % AK.sz α=j % AK.sz α:=by rw[<-Nat.mod_eq_sub_mod (by omega)]
    have l:(j - AK.sz α<n*AK.sz α)↔(j<(n+1)*AK.sz α):=by rw[Jo];omega
    simp only[g,l]
 rw[e];by_cases h:j<n*AK.sz α
 ·have o:j % AK.sz α<AK.sz α:=Nat.mod_lt _ d;have p:j % z.size<z.size:=by simp_all
  simp only[madeCells,XK,Array.toList_range,QK,h,if_true];rw[VS h,<-c];simp[b,o]
 ·simp only[madeCells,XK,Array.toList_range,QK,h,if_false];rw[Jg (by simp;omega)];rfl
theorem YV{t e:TypeId}{z:Value}{sz b:Nat}[l:DQ P t e][o:AX P e z sz b](x:α)(c:AK.sz α=sz)(p:z.cells.toList=enc x)(q:B<=w.heap.size)(hb:b*n<=281474976710656/\n<=9223372036854775807)
  (r:∀g w',AD B e w' (.slice (some ⟨g,0,none⟩) n n) (List.replicate n x)->Bp w w'->w.heap.size<=g->k (.slice (some ⟨g,0,none⟩) n n) w'):AI P (Instr.makeSlice t (.int .i64 n) (.int .i64 n)) k pn w:=by
 obtain⟨i,hi,d,v,y⟩:=info_parts o.h;subst c;obtain⟨w',A,f,C⟩:=run_make_full (P:=P) w B t e i z (AK.sz α) l.h hi d v .i64 .i64 n (by simp_all) (by unfold maxLen;omega) q;rw[vE z.cells x p n]at f;refine AI.of A (r _ w' (.inr (by simpa using f)) ((Fr.grown C λ_ _ E=>by cases E).mono λ_ _ h=>by simp at h) (Qe _))
theorem TC{t e:TypeId}{z:Value}{sz b:Nat}[p:DQ P t e][q:AX P e z sz b]{c:Nat}{l:List α}(lo hi:Option Nat)(h:AD B e w (.slice a n c) l)(r:lo.getD 0<=hi.getD n)(C:hi.getD n<=n)
  (v:∀a' d,(hi.getD n - lo.getD 0=0\/∃g,Value.blk (.slice a n c)=some g/\a'=some ⟨g,lo.getD 0*sz,none⟩)->k (.slice a' (hi.getD n - lo.getD 0) d) w):AI P (Instr.sliceAt t (.slice a n c) (PB lo) (PB hi) none) k pn w:=by
 have x:n<=c:=by obtain⟨a',d,f,o,_⟩:=h.sl;cases f;exact o
 refine AI.of (Sf p q lo hi r (by omega) w) (v _ _ ?_);by_cases h0:hi.getD n - lo.getD 0=0
 ·exact .inl h0
 ·right;have y:n=l.length:=by obtain⟨a',d,f,o,_⟩:=h.sl;cases f;rfl
  obtain⟨g,A,rfl,_⟩:=h.blk (by intro h0;subst h0;simp at y;omega);exact⟨g,rfl,by rw[if_neg (by omega)];simp[Oj]⟩
theorem UV{dT V ty e:TypeId}{z:Value}{sz H:Nat}[S:DQ P dT e][W:AX P e z sz H](I:AK.sz α=sz){v x:Value}{l m:List α}{dn X:Nat}(lo:Nat)(G:AD B e w v l)(Y:AQ w x m)
  (hd:dn=0\/∃g,Value.blk v=some g/\a'=some ⟨g,lo*sz,none⟩)(J:lo+dn<=l.length)(K:m.length<=dn)
  (T:∀w',AD B e w' v (l.take lo++m++l.drop (lo+m.length))->Fr (AV B v) w w'->w'.heap.size=w.heap.size->k (.int .i64 m.length) w'):AI P (Builtin.copy_ #[dT,V] ty #[.slice a' dn X,x]) k pn w:=by
 obtain⟨i,hi,_,Z,_⟩:=info_parts W.h;subst I;obtain⟨xa,xc,rfl,a0,L⟩:=Y;by_cases d:m=[]
 ·subst d;have r:l.take lo++[]++l.drop (lo+([]:List α).length)=l:=by simp
  refine AI.of (v:=.int .i64 ((0:Nat):Int)) (w':=w) ?_ (T w (by rw[r];exact G) (Fr.refl _ w) rfl);cases xa<;>cases a'<;>simp[Builtin.copy_,run_underlying S.h,Builtin.lenOf,sizeOf,typeInfo,hi,Builtin.firstCells,loadCells,loadCellsFrom,storeCells,goInt]
 ·have a1:0<m.length:=by cases m;exact absurd rfl d;simp
  rcases L with L|⟨b,o,rfl,M⟩
  ·exact absurd L d
  rcases hd with hd|⟨g,O,rfl⟩
  ·omega
  have f:l≠[]:=by intro h0;subst h0;simp at J;omega
  have t:lo*AK.sz α+(Ac m).length<=l.length*AK.sz α:=by
   rw[KZ,<-Jo];exact Ji _ (by omega)
  have y:splice (Ac l) (lo*AK.sz α) (Ac m)=Ac (l.take lo++m++l.drop (lo+m.length)):=by
   simp only[Ew,ZT,Yy,splice,KZ,<-Jo]
  obtain⟨p,c,A,hw⟩:=G.stored (l':=l.take lo++m++l.drop (lo+m.length)) (vs:=Ac m) O f (by simp;omega) t y;have q:∀j u,(Ac m)[j]? = some u->w.cell? ((⟨b,o,none⟩:Addr).add j)=some u:=λj u Q=>by rw[Oj];exact M j u Q
  have R:=run_firstCells_some (P:=P) w (AK.sz α) m.length ⟨b,o,none⟩ m.length xc (Ac m) (KZ m) q;have C:=run_storeCells_at P g (lo*AK.sz α) e (Ac m) 0 p w c (by simpa using A) (UY m);simp only[Xy]at C;have E:Nat.min m.length dn=m.length:=VB K;have U:B<=g:=by obtain⟨g',F,U,_⟩:=G.lt f;rw[O]at F;cases F;exact U
  refine AI.of (v:=.int .i64 (m.length:Int)) (w':=w.setRow g (splice p.toList (lo*AK.sz α) (Ac m)).toArray) ?_ (T _ (hw _ (setRow_heap w g p _ e _ c)) ((Fr.setRow w g _).mono λj _ Q=>⟨by omega,by rw[Q];exact O,G.not0 f⟩) (by simp));simp only[Builtin.copy_,Builtin.lenOf,sizeOf,typeInfo];simp[C,goInt,splice,run_underlying S.h,E,R,hi,Z]
theorem Kk{t:TypeId}{sz:Nat}[q:BZ P t sz](b:AK.sz α=sz){e:TypeId}{v:Value}{l:List α}{g:Nat}{y:Value}(x:α)(h:AD u.heap.size e w v l)(hb:Value.blk v=some g)(hi:i<l.length)(d:y.cells.toList=enc x)
  (f:∀w',AD u.heap.size e w' v (l.set i x)->Fr (AV u.heap.size v) w w'->Gl u w w'->w'.heap.size=w.heap.size->k undef w'):Ed P (Instr.storeAt t (.pointer (some ⟨g,i*sz,none⟩)) y) k pn w:=
 CZ b x h hb hi d λw' o c p=>f w' o c (Mu c) p
theorem Id{t e:TypeId}{z:Value}{sz d:Nat}[o:DQ P t e][p:AX P e z sz d](x:α)(f:AK.sz α=sz)(h:z.cells.toList=enc x)(hb:d*n<=281474976710656/\n<=9223372036854775807)
  (l:∀g w',AD w.heap.size e w' (.slice (some ⟨g,0,none⟩) n n) (List.replicate n x)->AC w w'->w.heap.size<=g->k (.slice (some ⟨g,0,none⟩) n n) w'):AI P (Instr.makeSlice t (.int .i64 n) (.int .i64 n)) k pn w:=
 YV x f h (Qe _) hb λg w' a b c=>l g w' a ⟨b⟩ c
theorem dE{dT p ty e:TypeId}{z:Value}{sz d:Nat}[A:DQ P dT e][C:AX P e z sz d](f:AK.sz α=sz){v x:Value}{l m:List α}{dn q:Nat}(lo:Nat)(r:AD u.heap.size e w v l)(t:AQ w x m)
  (hd:dn=0\/∃g,Value.blk v=some g/\a'=some ⟨g,lo*sz,none⟩)(h:lo+dn<=l.length)(o:m.length<=dn)
  (y:∀w',AD u.heap.size e w' v (l.take lo++m++l.drop (lo+m.length))->Fr (AV u.heap.size v) w w'->Gl u w w'->w'.heap.size=w.heap.size->k (.int .i64 m.length) w'):AI P (Builtin.copy_ #[dT,p] ty #[.slice a' dn q,x]) k pn w:=
 UV f lo r t hd h o λw' a b c=>y w' a b (Mu b) c
end
class AB (P:Program) (f:FuncId) (fn:outParam Func) (n:outParam Nat):Prop where
 hf:P.funcs[f]? = some fn:=by kernel_rfl
 hn:fn.ntmps=n:=by kernel_rfl
 hb:fn.body.isSome=true:=by kernel_rfl
 hm : (fn.name == "runtime.NumGoroutine") = false:=by kernel_rfl
theorem en{T:Ce}(b:T.ok P=true){f:FuncId}{fn:Func}[h:AB P f fn n]{args:Array Value}{R:KW}(c:Nat.ble args.size n=true)
  (d:S P T n (FC fn) (MI P fn.results.toList R (λ_ _=>False)) (KN args.toList) w)(e:Nat.ble n 4294967296=true:=by rfl)(g:T.round=false:=by rfl):Sp P f args w R:=
 Sp.enter b g h.hf h.hn h.hb h.hm c e d
end Go.W
set_option linter.unusedSimpArgs false
namespace Go.W
open Go
open AK (enc)
variable {B N i j k m n:Nat} {D:Nat -> Prop} {P:Program} {a a':OA} {s:U8} {u u' w w':World}
section
variable {P:Program} {k:KW} {pn:PW} {w:World}
theorem dM(a b:ByteArray):(a.toList==b.toList)=true↔a=b:=by
 rw[beq_iff_eq,Xs,Xs];constructor
 ·intro h;have:a.data=b.data:=Array.toList_inj.1 h;cases a;cases b;simp_all
 ·rintro rfl;rfl
theorem kI(c:BinOp)(t:TypeId)(x y:Operand)(a b:ByteArray)(w:World):(eqGuard c t x y (.string a) (.string b)).run P w=.ok () w:=by
 cases c<;>rfl
theorem nH{t:TypeId}{x y:Operand}{a b:ByteArray}(w:World):(do eqGuard .eql t x y (.string a) (.string b);binOp .eql t (.string a) (.string b):Sem Value).run P w=.ok (.bool (a.toList==b.toList)) w:=by
 rw[Qo,kI];simp[binOp_string_eql]
theorem r9{t:TypeId}{x y:Operand}{a b:ByteArray}(w:World):(do eqGuard .neq t x y (.string a) (.string b);binOp .neq t (.string a) (.string b):Sem Value).run P w=.ok (.bool (!(a.toList==b.toList))) w:=by
 rw[Qo,kI];simp[binOp_string_neq]
theorem fL{s:Sem Value}{p:Prop}(b:Bool)(h:s.run P w=.ok (.bool b) w)(hb:b=true↔p)(c:p->k (.bool true) w)(d:¬p->k (.bool false) w):AI P s k pn w:=by
 refine AI.of h ?_;cases b
 ·exact d λe=>by simp_all
 ·exact c (hb.1 rfl)
theorem qI{s:Sem Value}{p:Prop}{k:Value->Prop}(b:Bool)(h:∀w',s.run P w'=.ok (.bool b) w')(hb:b=true↔p)(c:p->k (.bool true))(d:¬p->k (.bool false)):Ar P s D k w:=by
 rw[Iv];refine⟨_,λw' _=>h w',?_⟩;cases b
 ·exact d λe=>by simp_all
 ·exact c (hb.1 rfl)
theorem uV{b:Bool}{p:Prop}(h:b=true↔p):(!b)=true↔¬p:=by cases b<;>simp_all
theorem DL{t:TypeId}{x y:Operand}{a b:ByteArray}(c:a=b->k (.bool true) w)(d:a≠b->k (.bool false) w):AI P (do eqGuard .eql t x y (.string a) (.string b);binOp .eql t (.string a) (.string b)) k pn w:=
 fL _ (nH w) (dM a b) c d
theorem Sd{t:TypeId}{x y:Operand}{a b:ByteArray}(c:a≠b->k (.bool true) w)(d:a=b->k (.bool false) w):AI P (do eqGuard .neq t x y (.string a) (.string b);binOp .neq t (.string a) (.string b)) k pn w:=
 fL _ (r9 w) (uV (dM a b)) c λh=>d (Q2.1 h)
theorem fW{t:TypeId}{x y:Operand}{a b:ByteArray}{k:Value->Prop}(c:a=b->k (.bool true))(d:a≠b->k (.bool false)):Ar P (do eqGuard .eql t x y (.string a) (.string b);binOp .eql t (.string a) (.string b)) D k w:=
 qI _ (λw'=>nH w') (dM a b) c d
theorem eM{t:TypeId}{x y:Operand}{a b:ByteArray}{k:Value->Prop}(c:a≠b->k (.bool true))(d:a=b->k (.bool false)):Ar P (do eqGuard .neq t x y (.string a) (.string b);binOp .neq t (.string a) (.string b)) D k w:=
 qI _ (λw'=>r9 w') (uV (dM a b)) c λh=>d (Q2.1 h)
theorem Yv{b:Array TypeId}{ty:TypeId}{x y:Int}(c:k (.int .i64 (max x y)) w):AI P (Builtin.max_ b ty #[.int .i64 x,.int .i64 y]) k pn w:=
 AI.of (v:=.int .i64 (max x y)) (w':=w) (by simp[Builtin.max_,Builtin.max2];split<;>omega) c
end
abbrev agg {α:Type} [AK α] (x:α):Value:=.agg (enc x).toArray
structure RQ where
 kind:Int
 frm:Int
 to:Int
 words:SV
 rad:Int
 most:Int
instance:AK RQ:=⟨6,λx=>[.int .i64 x.kind,.int .i64 x.frm,.int .i64 x.to,x.words.v,.int .i64 x.rad,.int .i64 x.most],λ_=>rfl,
 by intro x u hu;simp[SV.v]at hu;rcases hu with h|h|h|h|h|h<;>subst h<;>rfl,by decide⟩
structure Ay where
 id:Int
 kind:Int
 q:RQ
instance:AK Ay:=⟨8,λx=>.int .i64 x.id::.int .i64 x.kind::enc x.q,λ_=>rfl,
 by intro x u hu;simp at hu;rcases hu with h|h|h;(subst h;rfl);(subst h;rfl);exact AK.one _ _ h,by decide⟩
structure BC where
 used:Bool
 r:Ay
instance:AK BC:=⟨9,λx=>.bool x.used::enc x.r,λ_=>rfl,
 by intro x u hu;simp at hu;rcases hu with h|h;(subst h;rfl);exact AK.one _ _ h,by decide⟩
abbrev Wd:=SV->List ByteArray
def Ao (p:Prop) (v:Value):Prop:=(v=.bool true/\p)\/(v=.bool false/\¬p)
theorem Ao.t{p:Prop}(h:p):Ao p (.bool true):=.inl ⟨rfl,h⟩
theorem Ao.f{p:Prop}(h:¬p):Ao p (.bool false):=.inr ⟨rfl,h⟩
def AL (n:Nat):U8:=if h:n<128 then[UInt8.ofNat n] else UInt8.ofNat (128+n % 128)::AL (n / 128)
termination_by n
decreasing_by omega
def DB:U8->Nat
 |[]=>0
 |c::r=>c.toNat % 128+128*DB r
def E1:U8->Prop
 |[]=>False
 |[c]=>c.toNat<128
 |c::d::r=>128<=c.toNat/\E1 (d::r)/\(r=[]->d.toNat≠0)
theorem Ex(h:n<128):AL n=[UInt8.ofNat n]:=by unfold AL;rw[dif_pos h]
theorem WS(h:¬n<128):AL n=UInt8.ofNat (128+n % 128)::AL (n / 128):=by rw[AL,dif_neg h]
theorem jT(n:Nat):AL n≠[]:=by
 by_cases h:n<128
 ·rw[Ex h];simp
 ·rw[WS h];simp
theorem kP(n:Nat):DB (AL n)=n:=by
 induction n using Nat.strongRecOn with
 |ind n b =>
  by_cases h:n<128
  ·rw[Ex h];simp only[DB,JZ];omega
  ·rw[WS h];simp only[DB,JZ];rw[b (n / 128) (by omega)];omega
theorem Yo(n:Nat):E1 (AL n):=by
 induction n using Nat.strongRecOn with
 |ind n c =>
  by_cases h:n<128
  ·rw[Ex h];simp only[E1,JZ];omega
  ·have hi:=c (n / 128) (by omega);rw[WS h];by_cases b:n / 128<128
   ·rw[Ex b]at hi ⊢;refine⟨by rw[JZ];omega,hi,λ_=>by rw[JZ];omega⟩
   ·rw[WS b]at hi ⊢;refine⟨by rw[JZ];omega,hi,λe=>absurd e (jT _)⟩
theorem nV:∀{d:UInt8} {r:U8},E1 (d::r)->(r=[]->d.toNat≠0)->0<DB (d::r)
 |d,[],h,h0=>by have:=h0 rfl;simp only[E1]at h;simp only[DB];omega
 |d,e::r,h,_=>by
  obtain⟨_,b,c⟩:=h;have:=nV b c;simp only[DB]at this ⊢;omega
theorem oU:∀{l:U8},E1 l->AL (DB l)=l
 |[],h=>h.elim
 |[c],h=>by
  simp only[E1]at h;simp only[DB];rw[Ex (by omega)];congr 1;apply UInt8.toNat.inj;rw[JZ];omega
 |c::d::r,h=>by
  obtain⟨q,g,o⟩:=h;have t:=nV g o;have p:=oU g;have e:DB (c::d::r)=c.toNat % 128+128*DB (d::r):=rfl;rw[e,WS (by omega)];have b:(c.toNat % 128+128*DB (d::r)) / 128=DB (d::r):=by omega
  have f:(c.toNat % 128+128*DB (d::r)) % 128=c.toNat % 128:=by omega
  rw[b,f,p];congr 1;apply UInt8.toNat.inj;have:=c.toNat_lt;rw[JZ];omega
theorem E1.pre:∀{a b s t:U8},E1 a->E1 b->a++s=b++t->a=b/\s=t
 |[],_,_,_,h,_,_=>h.elim
 |_,[],_,_,_,h,_=>h.elim
 |[c],[d],s,t,_,_,e=>by simp_all
 |[c],d::d2::r,s,t,h,f,e=>by
  simp at e;have g:=f.1;simp only[E1]at h;rw[<-e.1]at g;omega
 |c::c2::r,[d],s,t,h,f,e=>by
  simp at e;have g:=h.1;simp only[E1]at f;rw[e.1]at g;omega
 |c::c2::r,d::d2::q,s,t,h,f,e=>by
  have l:c=d/\(c2::r)++s=(d2::q)++t:=by simpa using e
  have o:=E1.pre h.2.1 f.2.1 l.2;rw[l.1,o.1];exact⟨rfl,o.2⟩
theorem Hw{t:U8}(e:AL n++s=AL m++t):n=m/\s=t:=by
 have h:=E1.pre (Yo n) (Yo m) e;refine⟨?_,h.2⟩;have:=congrArg DB h.1
 rwa[kP,kP]at this
theorem LH(h:n<=2147483647):(AL n).length<=5:=by
 have step:∀k m:Nat,m<128 ^ (k+1)->(AL m).length<=k+1:=λk=>by
  induction k with
  |zero=>intro m b;rw[Ex (by simpa using b)];simp
  |succ k d =>
   intro m b;by_cases c:m<128
   ·rw[Ex c];simp
   ·rw[WS c,QA];have:=d (m / 128) (by omega);omega
 exact step 4 n (by omega)
end Go.W
set_option linter.unusedSimpArgs false
namespace Go.W
open Go
open AK (enc)
variable {B N i j k m n:Nat} {D:Nat -> Prop} {P:Program} {a a':OA} {s:U8} {u u' w w':World}
section
variable {P:Program}
theorem U9{W:World}{b:Nat}{t:TypeId}{v:Value}{cs:Array Value}(h:Value.okWide P W .any b t v)(d:v=.agg cs):(∃fs,P.underlying t=some (.struct fs))\/∃n e,P.underlying t=some (.array n e):=by
 subst d;unfold Value.okWide at h;split at h
 ·rename_i fs c;exact .inl ⟨fs,c⟩
 ·rename_i n e c;exact .inr ⟨n,e,c⟩
 ·rename_i f g;unfold Cell.okWide Cell.ok at h;split at h<;>try cases ‹Value.agg cs=_›
  split at h<;>first|cases ‹Value.agg cs=_› | cases h
theorem zPY{W:World}{b:Nat}{t:TypeId}{v u:Value}(h:Value.okWide P W .any b t v)(c:(match P.underlying t with|some (.struct _)=>false|some (.array _ _)=>false|_=>true)=true)(d:v.cells.toList=[u]):v=u:=by
 cases v<;>first
  |(simp[Value.cells]at d;exact d)
  |(rename_i cs;rcases U9 h rfl with⟨fs,f⟩|⟨n,e,f⟩<;>rw[f]at c<;>cases c)
theorem mM{H:Type}{g:TypeId×Value->H}(l:laidOutB P=true){W o:World}(hb:Go.RowKit.Below W.heap.size W o):∀{ts:List TypeId} {vs:List Value} {ds:List (DataW H)} {ps:List MemPlace},ts.all (λt=>P.readableRec t && decide (t<P.types.size))=true ->
  DataW.TrodAll g P W 0 (λ_=>true) true ts vs ds ps->(∀x∈ps,x.block<W.heap.size)->DataW.TrodAll g P o 0 (λb=>decide (b<W.heap.size)) true ts vs ds ps
 |[],[],[],_,_,h,_=>h
 |[],[],_::_,_,_,h,_=>h.elim
 |[],_::_,_,_,_,h,_=>h.elim
 |_::_,[],_,_,_,h,_=>h.elim
 |_::_,_::_,[],_,_,h,_=>h.elim
 |t::ts,v::vs,d::ds,ps,c,⟨p,q,r,y,e⟩,AY=>by
  simp only[Ye,Qz,decide_eq_true_eq]at c;subst e
  exact⟨p,q,Go.RowKit.Below.trod l c.1.1 c.1.2 r hb λx f=>AY x (QN _ f),
   mM l hb (by simpa using c.2) y λx f=>AY x (JJ _ f),rfl⟩
theorem Bp.kept{W c:World}{b:MemPlace->Prop}(h:Bp W c):W.keptBut c b:=by
 refine⟨h.os,h.output,λi hi=>?_⟩;rw[h.below.block i hi];have:∃o,W.heap[i]? = some o:=⟨_,QT hi⟩;obtain⟨o,d⟩:=this;rw[d];cases o<;>simp
theorem bC{H:Type}{c:TypeId×Value->H}{W:World}{b:Nat}{d:Nat->Bool}{hd:Bool}:∀{ts:List TypeId} {vs:List Value} {ds:List (DataW H)} {ps:List MemPlace},DataW.TrodAll c P W b d hd ts vs ds ps->ds.length=ts.length
 |[],[],[],_,_=>rfl
 |[],[],_::_,_,h=>h.elim
 |[],_::_,_,_,h=>h.elim
 |_::_,[],_,_,h=>h.elim
 |_::_,_::_,[],_,h=>h.elim
 |_::_,_::_,_::_,_,⟨_,_,_,h,_⟩=>congrArg (· + 1) (bC h)
end
structure NC (P:Program) (l:Nat) (vs:List Value) (w:World) (R:Bool->World->Prop):Prop where
 out:∃r:Loop,w.heap[l]? = some (.loop r)/\vs.length=r.params.size /\
  RoundIn Fence.wide 0 P l r.fn ((r.params.zip vs.toArray).foldl (λtmps (t,a)=>tmps.setIfInBounds t a) r.tmps) r.assign r.body w (H3 (λv w'=>∃b,v=.bool b/\R b w') (λ_ _=>False))
abbrev yl (l:Nat):Value:=.func (.yield l) #[] #[]
section
variable {P:Program}
theorem IR{o:Oper}{F:Nat->Value}{c:Call}{f:Operand}{l:Nat}{vs:List Value}{k:KW}{p:PW}
  (q:o.op=.call c)(x:c.callee=.value f)(y:ev F f=yl l)(z:IE F c.args.toList=vs){R:Bool->World->Prop}(h:NC P l vs w R)(A:∀b w',R b w'->k (.bool b) w'):DT P (execOp (ev F) o) k p w:=by
 obtain⟨r,C,E,G⟩:=h.out;have d:c.args.map (ev F)=vs.toArray:=by rw[<-z,RN]
 have e:(execOp (ev F) o).run P w=.ok (.round l r.fn ((r.params.zip vs.toArray).foldl (λtmps (t,a)=>tmps.setIfInBounds t a) r.tmps) r.assign r.body) w:=by
  unfold execOp;simp only[q,resolve,x,y,Deferred.ofValue,d];simp only[pure_bind,invoke];have:=run_yield (P:=P) (args:=vs.toArray) C (by simpa using E);simpa[yl]using this
 rw[Si,e]
 exact⟨G.mono λe w' g=>by
  cases e with
  |returned v=>obtain⟨b,rfl,hb⟩:=g;exact A b w' hb
  |panicked c=>exact g.elim
  |outgrown=>exact g.elim⟩
structure Qt (B:Nat) (u u':World):Prop where
 os:u'.os=u.os
 tape:u'.tape=u.tape
 output:u'.output=u.output
 size:u.heap.size<=u'.heap.size
 block:∀b o,u.heap[b]? = some o->(b<B\/isRec o=false)->u'.heap[b]? = some o
theorem Qt.of_ext(e:Bp u u'):Qt B u u':=⟨e.os,e.tape,e.output,e.size,λb o hb _=>by rw[e.block b (Ad hb) id];exact hb⟩
theorem Qt.put{l:Nat}{o o':Obj}(c:u.heap[l]? = some o)(d:isRec o=true)(f:B<=l):Qt B u (u.putObj l o'):=
 ⟨rfl,rfl,rfl,by simp,λb x hb e=>by
  rw[Jk]
  ·exact hb
  ·rintro rfl;rw[c]at hb;cases hb;rcases e with h|h
   ·omega
   ·rw[d]at h;cases h⟩
theorem Fr.qt(h:Fr D w u)(q:Qt w.heap.size u u'):Fr D w u':=
 ⟨q.os.trans h.os,q.tape.trans h.tape,q.output.trans h.output,Qw h.size q.size,λb hb hd=>by
  have d:=h.block b hb hd;rw[<-d];have:∃o,u.heap[b]? = some o:=⟨_,QT (QJ hb h.size)⟩;obtain⟨o,c⟩:=this;rw[c];exact q.block b o c (.inl hb),λb o hb c=>q.block b o (h.nc b o hb c) (.inl (Ad hb))⟩
theorem AC.qt(h:AC w u)(q:Qt w.heap.size u u'):AC w u':=⟨h.e.qt q⟩
theorem Qt.mono{B':Nat}(q:Qt B u u')(h:B'<=B):Qt B' u u':=⟨q.os,q.tape,q.output,q.size,λb o hb c=>q.block b o hb (c.imp (λd=>by omega) id)⟩
theorem yX(q:Qt B u u'){a:Addr}{v:Value}(b:u.cell? a=some v):u'.cell? a=some v:=by
 have AY:=XA u a b;have:∃o,u.heap[a.block]? = some o:=⟨_,QT AY⟩;obtain⟨o,c⟩:=this
 have d:isRec o=false:=by
  unfold World.cell? at b;rw[c]at b;cases o<;>first|rfl|simp at b
 rw[World.cell?_of_block (w:=u) (by rw[c];exact q.block _ _ c (.inr d))];exact b
theorem At.qt{b o:Nat}{cs:List Value}(h:At u b o cs)(q:Qt B u u'):At u' b o cs:=λj v c=>yX q (h j v c)
theorem Q6{b:Nat}{cs:Array Value}{e:TypeId}{z:Nat×Nat}(h:u.heap[b]? = some (.cells cs e z))(q:Qt B u u'):u'.heap[b]? = some (.cells cs e z):=q.block b _ h (.inr rfl)
theorem AQ.qt{α:Type}[AK α]{v:Value}{l:List α}(h:AQ u v l)(q:Qt B u u'):AQ u' v l:=by
 obtain⟨a,c,e,f,h⟩:=h;exact⟨a,c,e,f,h.imp id λ⟨b,o,g,d⟩=>⟨b,o,g,d.qt q⟩⟩
theorem AD.qt{α:Type}[AK α]{C:Nat}{e:TypeId}{v:Value}{l:List α}(h:AD C e u v l)(q:Qt B u u'):AD C e u' v l:=by
 rcases h with h|h
 ·exact .inl h
 ·refine .inr ⟨h.1,?_⟩;rcases h.2 with c|⟨g,cap,b,rfl,hb,d,rest⟩
  ·exact .inl c
  ·exact .inr ⟨g,cap,b,rfl,hb,Q6 d q,rest⟩
structure Kv (P:Program) (g:FuncId) (first cap:List Value) (Dat:World->Prop) (xs:List (List Value)):Prop where
 out:∀(l:Nat) (J:Nat->World->Prop) (Jx:World->Prop) (w:World),(∀i u u',J i u->Bp u u'->J i u')->(∀u u',Jx u->Bp u u'->Jx u')->(∀i u,J i u->Dat u) ->
  (∀i u x,xs[i]? = some x->J i u->NC P l x u λb u'=>(b=true/\J (i+1) u')\/(b=false/\Jx u'))->J 0 w ->
  Sp P g (first++[yl l]++cap).toArray w λ_ w'=>J xs.length w'\/Jx w'
def Yz (F:Nat->Value):List Nat->List Value->Nat->Value
 |s::r,v::vs=>Yz (CQ F s v) r vs
 |_,_=>CQ F 4294967296 undef
theorem jC(d:n<=4294967296):∀(ps:List Nat) (vs:List Value) (F:Nat->Value) (a:Act),FI n F a->(∀s∈ps,s<n)->vs.length=ps.length ->
  FI n (Yz F ps vs) { tmps:=(ps.zip vs).foldl (λt (s,v)=>t.setIfInBounds s v) a.tmps,defers:=[] }
 |[],vs,F,a,h,_,b=>by
  have:vs=[]:=Qn (by simpa using b);subst this;refine⟨h.size,d,?_,λt e=>?_⟩
  ·show []=FH (CQ F 4294967296 undef 4294967296);unfold CQ;rw[show Nat.beq 4294967296 4294967296=true from rfl];rfl
  ·have hb:Nat.beq t 4294967296=false:=by
    cases g:Nat.beq t 4294967296 with
    |false=>rfl
    |true=>exact absurd (QD g) e
   show a.tmps.getD t undef=CQ F 4294967296 undef t;unfold CQ;rw[hb];exact h.get t e
 |s::r,[],_,_,_,_,b=>by simp at b
 |s::r,v::vs,F,a,h,l,b=>by
  have c:FI n (CQ F s v) (a.put (some s) v):=by
   have o:BY n F (some s) v (λf=>f=CQ F s v):=by
    simp only[BY];have:Nat.blt s n=true:=by simp_all
    rw[this];trivial
   obtain⟨f,p,_,rfl⟩:=h.put o;exact p
  have:=jC d r vs (CQ F s v) (a.put (some s) v) c (λx q=>l x (QF _ q)) (by simpa using b);simpa[Yz,Act.put]using this
def MW (n:Nat):List Nat->Bool
 |[]=>true
 |s::r=>Nat.blt s n && MW n r
theorem pI:∀{l:List Nat},MW n l=true->∀s∈l,s<n:=by intro a;induction a<;>simp_all[MW]
abbrev DP (F:Nat->Value) (D:Nat):Nat->Value:=CQ F 4294967296 (HA (.pointer (some ⟨D,0,none⟩)) (F 4294967296))
theorem Te(r:Option Nat)(l:Nat):(fw r).inRound l=fw (some l):=rfl
theorem IS{T:Ce}(hT:T.ok P=true)(hr:T.round=false){g:Operand}{ps:Array Tmp}{assign body:Code}{Q:KS}{F:Nat->Value}{gf:FuncId}{first cap:List Value}{xs:List (List Value)}{a0:World->Prop}
  (hg:ev F g=.func (.func gf) first.toArray cap.toArray)(a8:MW n ps.toList=true)
  (a2:Kv P gf first cap a0 xs)(a9:∀x∈xs,x.length=ps.toList.length)
  (I:Nat->World->Prop)(M:Code->World->Prop)(hI:∀i u u',I i u->Qt w.heap.size u u'->I i u')(H:∀c u u',M c u->Qt w.heap.size u u'->M c u')(hD:∀i u,I i u->a0 u)(h0:I 0 w)
  (J:∀i x u,xs[i]? = some x->I i u->S P { T with round:=true } n assign
   { nrm:=λF1 u1=>Bp u u1/\(∀c,Qt w.heap.size u1 c->S P { T with round:=true } n body { nrm:=λ_ L=>I (i+1) L/\∃D,Fr D c L,ext:=λj _ L=>M (.exit j) L/\∃D,Fr D c L,ret:=λ_ L=>M .ret L/\∃D,Fr D c L,pan:=λ_ _ _=>False } F1 c),ext:=λ_ _ _=>False,ret:=λ_ _=>False,pan:=λ_ _ _=>False } (Yz F ps.toList x) u)
  (O:∀D u,I xs.length u->w.heap.size<=D->u.heap[D]? = some (.deferred (some []))->Q.nrm (DP F D) u)
  (R:∀c D u,M c u->w.heap.size<=D->u.heap[D]? = some (.deferred (some []))->match c with | .ret=>Q.ret (DP F D) u | .exit j=>Q.ext j (DP F D) u|_=>False):
  BI P T n (.rangeFunc g ps assign body) Q F w:=by
 rw[SH];intro md a4 a U;have b0:md=none:=by cases md with|none=>rfl|some _=>rw[hr]at a4;cases a4
 subst b0;refine wpIn_rangeFunc ?_;intro fn _;have b1:(fw none).round=none:=rfl;rw[b1];obtain⟨rec,f⟩:∃rec:LoopState->Option Code->Loop,rec=λst pe=>{ state:=st,pending:=pe,fn,tmps:=a.tmps,params:=ps,assign,body,defers:=w.heap.size }:=⟨_,rfl⟩;obtain⟨p,K⟩:∃p,(w.alloc (.deferred (some []))).alloc (.loop (rec .ready none))=p:=⟨_,rfl⟩;have b2:Bp w p:=by rw[<-K];exact(Bp.alloc w _).t (Bp.alloc _ _)
 have b3:p.heap[w.heap.size+1]? = some (.loop (rec .ready none)):=by
  rw[<-K];have:=Xd (w.alloc (.deferred (some []))) (.loop (rec .ready none));rwa[World.size_alloc]at this
 have b4:p.heap[w.heap.size]? = some (.deferred (some [])):=by
  rw[<-K];exact(VD _ _ _ (by simp)).trans (Xd w _)
 have b5:a.eval g=.func (.func gf) first.toArray cap.toArray:=by rw[U.eval];exact hg
 have A:=a2.out (w.heap.size+1)
  (λi u=>I i u/\u.heap[w.heap.size+1]? = some (.loop (rec .ready none))/\u.heap[w.heap.size]? = some (.deferred (some [])))
  (λu=>∃c,M c u/\u.heap[w.heap.size+1]? = some (.loop (rec .done (some c)))/\u.heap[w.heap.size]? = some (.deferred (some []))) p
  (λi u u' h e=>⟨hI i u u' h.1 (.of_ext e),e.nc _ _ h.2.1 rfl,e.nc _ _ h.2.2 rfl⟩)
  (λu u' h e=>by obtain⟨c,q,r,C⟩:=h;exact⟨c,H c u u' q (.of_ext e),e.nc _ _ r rfl,e.nc _ _ C rfl⟩)
  (λi u h=>hD i u h.1) ?_ ⟨hI 0 w p h0 (.of_ext b2),b3,b4⟩
 ·refine⟨w.heap.size+1,[{ target:=.collected w.heap.size,args:=#[] }],p,{ target:=.fn (.func gf) cap.toArray,args:=first.toArray++#[yl (w.heap.size+1)] },p,gf,
   (first++[yl (w.heap.size+1)]++cap).toArray,p,?_,?_,λ_ _=>trivial,?_,λh=>by simp[fw,Fence.wide]at h,?_⟩
  ·rw[<-K,f];exact run_enterLoop_outer _ _ _ _ _
  ·simp only[resolve,b5];simp[Deferred.ofValue,yl,Act.eval]
  ·have:(callFunc gf (first++[yl (w.heap.size+1)]++cap).toArray).run P p=.ok (.enter gf (first++[yl (w.heap.size+1)]++cap).toArray) p:=UI A.can p;simpa[invoke]using this
  ·refine iE none (A.calls.mono ?_);intro e u he
   have o:∀u:World,FI n (DP F w.heap.size) { a with defers:=[{ target:=.collected w.heap.size,args:=#[] }]++a.defers }:=λ_=>by
    refine⟨U.size,U.le,?_,λt ht=>?_⟩
    ·show _::a.defers=FH (DP F w.heap.size 4294967296);unfold DP CQ;rw[show Nat.beq 4294967296 4294967296=true from rfl,cond_true,U.defers];exact(cM _ _ _ rfl).symm
    ·have hb:Nat.beq t 4294967296=false:=by
      cases V:Nat.beq t 4294967296 with
      |false=>rfl
      |true=>exact absurd (QD V) ht
     show a.tmps.getD t undef=DP F w.heap.size t;unfold DP CQ;rw[hb];exact U.get t ht
   have W:agree (wr (.rangeFunc g ps assign body)) F (DP F w.heap.size):=by
    intro t ht;unfold DP CQ;have:Nat.beq t 4294967296=false:=ht;rw[this];rfl
   cases e with
   |returned v =>
    rcases he with⟨q,r,C⟩|⟨c,q,r,C⟩
    ·refine⟨none,u.putObj (w.heap.size+1) (.loop { rec .ready none with state:=.exhausted }),?_,?_⟩
     ·have:=run_endLoop (P:=P) r (by rw[f];simp);rw[f]at this ⊢;exact this
     ·exact⟨_,o u,W,O _ _ (hI _ _ _ q (Qt.put r rfl (by omega))) (Qe _) ((Jk (by omega)).trans C)⟩
    ·refine⟨some c,u.putObj (w.heap.size+1) (.loop { rec .done (some c) with state:=.exhausted }),?_,?_⟩
     ·have:=run_endLoop (P:=P) r (by rw[f];simp);rw[f]at this ⊢;exact this
     ·have hs:=R c w.heap.size _ (H _ _ _ q (Qt.put (o':=.loop { rec .done (some c) with state:=.exhausted }) r rfl (by omega))) (Qe _) ((Jk (by omega)).trans C);cases c<;>first|exact hs.elim|skip
      ·exact wpIn_exit ⟨_,o u,W,hs⟩
      ·exact wpIn_ret ⟨_,o u,W,hs⟩
   |panicked c=>exact he.elim
   |outgrown=>exact he.elim
 ·
  intro i u x hx hh;obtain⟨hi,hl,hk⟩:=hh;have AY:=Ad hl;have a5:=a9 x (Jy hx);have y:rec .ready none = { state:=.ready,pending:=none,fn,tmps:=a.tmps,params:=ps,assign,body,defers:=w.heap.size }:=by rw[f]
  refine⟨rec .ready none,hl,by rw[y];simpa using a5,?_⟩
  have b6:(((rec .ready none).params.zip x.toArray).foldl (λtmps (t,a)=>tmps.setIfInBounds t a) (rec .ready none).tmps)=(ps.toList.zip x).foldl (λt (s,v)=>t.setIfInBounds s v) a.tmps:=by
   rw[y];show(ps.zip x.toArray).foldl _ a.tmps=_;rw[<-Array.foldl_toList];simp
  have o:=jC U.le ps.toList x F a U (pI a8) a5;have hR:=J i x u hx hi;have e1:(rec .ready none).fn=fn:=by rw[y]
  have e2:(rec .ready none).assign=assign:=by rw[y]
  have e3:(rec .ready none).body=body:=by rw[y]
  rw[b6,e1,e2,e3];have a6:({ T with round:=true }:Ce).ok P=true:=hT
  have E:RoundIn (fw none) 0 P (w.heap.size+1) fn ((ps.toList.zip x).foldl (λt (s,v)=>t.setIfInBounds s v) a.tmps) assign body u
    (H3 (λv w'=>∃b,v=.bool b/\((b=true/\(I (i+1) w'/\w'.heap[w.heap.size+1]? = some (.loop (rec .ready none))/\w'.heap[w.heap.size]? = some (.deferred (some [])))) \/
     (b=false/\∃c,M c w'/\w'.heap[w.heap.size+1]? = some (.loop (rec .done (some c)))/\w'.heap[w.heap.size]? = some (.deferred (some []))))) (λ_ _=>False)):=by
   refine roundIn_of_wpIn trivial ?_;rw[Te];refine Jb ?_ (Ti a6 assign _ _ _ hR (some (w.heap.size+1)) rfl _ o);intro e a1 u1 V;cases e<;>simp only[KS.lift,Exit.then]at V ⊢
   case normal =>
    obtain⟨F1,q,_,hE,hb⟩:=V;have X:=hE.nc _ _ hl rfl;have b7:=hE.nc _ _ hk rfl;refine⟨_,run_beginRound X (by rw[y]),?_⟩;have a7:=Ad X;have b8:(u1.putObj (w.heap.size+1) (.loop { rec .ready none with state:=.busy })).heap[w.heap.size+1]? = some (.loop { rec .ready none with state:=.busy }):=VX a7;have b9:(u1.putObj (w.heap.size+1) (.loop { rec .ready none with state:=.busy })).heap[w.heap.size]? = some (.deferred (some [])):=(Jk (by omega)).trans b7;have Y:=hb _ (Qt.put (o':=.loop { rec .ready none with state:=.busy }) X rfl (by omega));refine Jb ?_ (Ti a6 body _ _ _ Y (some (w.heap.size+1)) rfl a1 q)
    have fin:∀(d:Option Code) (z:World),(∃D,Fr D (u1.putObj (w.heap.size+1) (.loop { rec .ready none with state:=.busy })) z) ->
      (Instr.endRound (w.heap.size+1) d).run P z=.ok (.bool d.isNone) (z.putObj (w.heap.size+1) (.loop (rec (if d.isNone then .ready else .done) d))) /\
      (Qt w.heap.size z (z.putObj (w.heap.size+1) (.loop (rec (if d.isNone then .ready else .done) d)))) /\
      (z.putObj (w.heap.size+1) (.loop (rec (if d.isNone then .ready else .done) d))).heap[w.heap.size+1]? = some (.loop (rec (if d.isNone then .ready else .done) d)) /\
      (z.putObj (w.heap.size+1) (.loop (rec (if d.isNone then .ready else .done) d))).heap[w.heap.size]? = some (.deferred (some [])):=λd z l=>by
     obtain⟨D,l⟩:=l;have Z:=l.nc _ _ b8 rfl;have:=run_endRound (P:=P) d Z;refine⟨?_,Qt.put Z rfl (by omega),VX (Ad Z),(Jk (by omega)).trans (l.nc _ _ b9 rfl)⟩;rw[f]at this ⊢;exact this
    intro e a3 z hp;cases e<;>simp only[KS.lift,roundPost]at hp ⊢
    case normal =>
     obtain⟨_,_,_,G,l⟩:=hp;obtain⟨q,r,C,h4⟩:=fin none z l;exact⟨_,_,q,_,rfl,.inl ⟨rfl,hI _ _ _ G r,C,h4⟩⟩
    case exit j =>
     obtain⟨_,_,_,G,l⟩:=hp;obtain⟨q,r,C,h4⟩:=fin (some (.exit j)) z l;exact⟨_,_,q,_,rfl,.inr ⟨rfl,_,H _ _ _ G r,C,h4⟩⟩
    case ret =>
     obtain⟨_,_,_,G,l⟩:=hp;obtain⟨q,r,C,h4⟩:=fin (some .ret) z l;exact⟨_,_,q,_,rfl,.inr ⟨rfl,_,H _ _ _ G r,C,h4⟩⟩
    case panic c=>obtain⟨_,_,_,h⟩:=hp;exact h.elim
   case exit j=>obtain⟨_,_,_,h⟩:=V;exact h.elim
   case ret=>obtain⟨_,_,_,h⟩:=V;exact h.elim
   case panic c=>obtain⟨_,_,_,h⟩:=V;exact h.elim
  exact E
end
class Bk (x:outParam World) (b:Nat) (cs:outParam (List Value)) (e:outParam TypeId):Prop where
 h:x.heap[b]? = some (.cells cs.toArray e (0,0))
theorem Bk.up{x:World}{b:Nat}{cs:List Value}{e:TypeId}(B:Bk x b cs e)[L:Le x w]:w.heap[b]? = some (.cells cs.toArray e (0,0)):=uP (h:=L) B.h
theorem Bk.at{x:World}{b:Nat}{cs:List Value}{e:TypeId}(B:Bk x b cs e)[L:Le x w]:At w b 0 cs:=by have:=At.blk (uP (h:=L) B.h);simpa using this
theorem Bk.lt{x:World}{b:Nat}{cs:List Value}{e:TypeId}(B:Bk x b cs e):b<x.heap.size:=Ad B.h
theorem Bk.fr{x:World}{b:Nat}{cs:List Value}{e:TypeId}(B:Bk x b cs e)(f:Fr D x w)(hd:¬D b):Bk w b cs e:=⟨f.blk B.h hd⟩
theorem Bk.mv{x:World}{b:Nat}{cs:List Value}{e:TypeId}(B:Bk x b cs e)[L:Le x w]:Bk w b cs e:=⟨B.up⟩
theorem Bk.qt{b:Nat}{cs:List Value}{e:TypeId}(h:Bk u b cs e)(q:Qt B u u'):Bk u' b cs e:=⟨Q6 h.h q⟩
class Nx (w:outParam World) (w':World) (b:outParam Nat):Prop where
 b:b=w.heap.size
 s:w'.heap.size=w.heap.size+1
 e:Bp w w'
 g:∃o,w'=w.alloc o
instance Nx.stp {w w':World} {b:Nat} [n:Nx w w' b]:AC w w':=⟨n.e⟩
section
variable {P:Program} {k:KW} {pn:PW} {w:World}
theorem Nx.mk'(w:World)(o:Obj):Nx w (w.alloc o) w.heap.size:=⟨rfl,by simp,Bp.alloc w o,o,rfl⟩
theorem BM{e:TypeId}{v:Value}(c:∀b w',Nx w w' b->Bk w' b v.cells.toList e->k (.pointer (some ⟨b,0,none⟩)) w'):AI P (Instr.box e v) k pn w:=
 AI.of (v:=.pointer (some ⟨w.heap.size,0,none⟩)) (w':=w.alloc (.cells v.cells e)) (by rfl) (c _ _ (Nx.mk' w _) ⟨by rw[heap_alloc_new]⟩)
theorem Ap{e:TypeId}{z:Value}{sz c:Nat}[d:AX P e z sz c](f:∀b w',Nx w w' b->Bk w' b z.cells.toList e->k (.pointer (some ⟨b,0,none⟩)) w'):AI P (Instr.alloc e true (.tuple #[])) k pn w:=by
 obtain⟨i,hi,g,_,_⟩:=info_parts d.h;exact AI.of (v:=.pointer (some ⟨w.heap.size,0,none⟩)) (w':=w.alloc (.cells z.cells e)) (by simp[Instr.alloc,zeroValue,typeInfo,hi,g,newVar,newRow]) (f _ _ (Nx.mk' w _) ⟨by rw[heap_alloc_new]⟩)
theorem Cx{t:TypeId}[f:One P t]{x:World}{b o:Nat}{cs:List Value}{e:TypeId}[B:Bk x b cs e][L:Le x w]{v:Value}(c:Ij cs o=some v)(d:k v w):AI P (Instr.loadAt t (.pointer (some ⟨b,o,none⟩))) k pn w:=
 AF (by have:=(Bk.at (w:=w) B).cell o (v:=v) (by rw[<-Dw];exact c);rwa[JO]at this) d
theorem Cq{t:Nat}[g:FZ P t n]{x:World}{b o:Nat}{cs:List Value}{e:TypeId}[B:Bk x b cs e][L:Le x w]{ds:List Value}(c:(cs.drop o).take n=ds)(d:ds.length=n)(f:k (.agg ds.toArray) w):AI P (Instr.loadAt t (.pointer (some ⟨b,o,none⟩))) k pn w:=
 Ai (by have:=(Bk.at (w:=w) B).sub o n;rw[c,JO]at this;exact this) d f
theorem FJ{t:TypeId}[f:One P t]{x:World}{b o:Nat}{cs:List Value}{e:TypeId}[B:Bk x b cs e][L:Le x w]{v:Value}{k:Value->Prop}(c:Ij cs o=some v)(d:k v):I1 P t ⟨b,o,none⟩ k w:=
 Yp (by have:=(Bk.at (w:=w) B).cell o (v:=v) (by rw[<-Dw];exact c);rwa[JO]at this) d
theorem AR{t:Nat}[f:FZ P t n]{x:World}{b:Nat}{cs:List Value}{e:TypeId}[B:Bk x b cs e][L:Le x w]{k:Value->Prop}(c:cs.length=n)(d:k (.agg cs.toArray)):I1 P t ⟨b,0,none⟩ k w:=
 Rm (Bk.at B) c d
theorem DI{t:TypeId}[o:BZ P t n]{x:World}{b off:Nat}{cs:List Value}{e:TypeId}[B:Bk x b cs e][L:Le x w]{v:Value}{vs:List Value}(d:v.cells.toList=vs)(g:vs.length=n)(c:Nat.ble (off+n) cs.length=true)(h:∀u∈vs,u.oneCell'=true)
  (l:∀w',Bk w' b (splice cs off vs) e->Fr (λi=>i=b) w w'->w'.heap.size=w.heap.size->k undef w'):Ed P (Instr.storeAt t (.pointer (some ⟨b,off,none⟩)) v) k pn w:=
 YF (Bk.up B) d g (by simp_all) h λw' a f s=>l w' ⟨by simpa using a⟩ f s
theorem Fr.one{w:World}{b:Nat}(f:Fr (λi=>i=b) w w')(h:u.heap.size<=b):Gl u w w':=f.stw λ_ hi=>hi ▸ h
theorem Nx.lo{w:World}{b:Nat}(n:Nx w w' b)[L:Le u w]:u.heap.size<=b:=by rw[n.b];exact L.e.size
theorem zNa(e:BinOp)(t:TypeId)(x y:Operand)(a b:OA)(n m c d:Nat)(w:World):(eqGuard e t x y (.slice a n c) (.slice b m d)).run P w=.ok () w:=by
 cases e<;>rfl
theorem zH5(d:Nat){t e:TypeId}(b:P.underlying t=some (.slice e))(a:OA)(n c:Nat)(w:World):(Op.equalIn (d+1) t (.slice a n c) (.slice none 0 0)).run P w=.ok a.isNone w:=by
 cases a<;>simp[Op.equalIn,run_underlying b]
theorem LC{t e:TypeId}[b:DQ P t e]{x y:Operand}{c:Nat}(d:a=none->k (.bool true) w)(f:a≠none->k (.bool false) w):AI P (do eqGuard .eql t x y (.slice a n c) (.slice none 0 0);binOp .eql t (.slice a n c) (.slice none 0 0)) k pn w:=by
 refine fL (p:=a=none) a.isNone ?_ (by cases a<;>simp) d f;rw[Qo,zNa,Qh];simp only[binOp];rw[Qo,show(Op.equal t (.slice a n c) (.slice none 0 0)).run P w=.ok a.isNone w from zH5 9999 b.h a n c w];rfl
end
section
variable {P:Program}
theorem Fg{b:List ResultVar}{F:Nat->Value}{D:Nat}{args:Array Value}{R:KW}{d:PW}(c:u.heap[D]? = some (.deferred (some [])))
  (h:∀u',(∀B,B<=D->Qt B u u')->Ek P b [] F R u'):Cb P b F [{ target:=.collected D,args }] .returning R d u:=
 sO (by intro h;cases h) c (Cg (h _ λB e=>Qt.put c rfl e))
end
def Dj (q:Nat->Bool) (n:Nat):List Nat:=(List.range n).filter q
theorem mL(q:Nat->Bool)(n:Nat):Dj q (n+1)=if q n then Dj q n++[n] else Dj q n:=by
 unfold Dj;rw[Jm,QV];cases h:q n<;>simp[h]
theorem UD{q:Nat->Bool}(d:k<n)(b:q k=true):(Dj q n)[(Dj q k).length]? = some k:=by
 induction n with
 |zero=>omega
 |succ n c =>
  rw[mL];rcases QH k n with h|h
  ·have:=c h;split
   ·rw[VL (Qy.1 this).1];exact this
   ·exact this
  ·obtain rfl:k=n:=by omega
   rw[if_pos b];simp
theorem cU{q:Nat->Bool}:k∈Dj q n↔k<n/\q k=true:=by simp[Dj]
theorem bL(q:Nat->Bool)(n:Nat):(Dj q n).length<=n:=by unfold Dj;exact Qw (Qv _ _) (by simp)
section
variable {P:Program} {T:Ce} {n:Nat}
theorem cnt(d:T.ok P=true)(m:Nat)(keep:List Nat)(s:Nat)(N:Nat)(I:Nat->World->Prop){body:Code}{Q:KS}{F:Nat->Value}
  (b:Kb m keep [s] body=true)(e:F s=.int .i64 0)(h0:I 0 w)
  (f:∀(k:Nat) g w,k<=N->I k w->S P T n body { Q with nrm:=λl w'=>l s=.int .i64 ((k:Int)+1)/\k<N/\I (k+1) w' } (IH m keep [(s,.int .i64 k)] g F) w):BI P T n (.loop body) Q F w:=by
 refine GV d m keep s (λv w=>∃k:Nat,k<=N/\v=.int .i64 k/\I k w) (λv _=>N - (Go.RowKit.intOf v).toNat) b ⟨0,by omega,e,h0⟩ ?_;rintro v g w ⟨k,o,rfl,hi⟩;refine IJ _ _ _ _ _ (f k g w o hi) ?_ (λ_ _ _ _ h=>h) (λ_ _ _ h=>h) (λ_ _ _ _ h=>h);intro G w' _ h;obtain⟨c,p,q⟩:=h;refine⟨⟨k+1,p,c,q⟩,?_⟩;show N - (Go.RowKit.intOf (G s)).toNat<N - _;rw[c];show N - ((k:Int)+1).toNat<N - ((k:Int)).toNat;omega
theorem jX(l:T.ok P=true)(m:Nat)(keep:List Nat)(c s:Nat)(N:Nat)(I:Nat->KW){body:Code}{Q:KS}{F:Nat->Value}
  (d:Kb m keep [c,s] body=true)(o:F s=.int .i64 0)(h0:I 0 (F c) w)
  (p:∀(k:Nat) b g w,k<=N->I k b w->S P T n body { Q with nrm:=λe w'=>e s=.int .i64 ((k:Int)+1)/\k<N/\I (k+1) (e c) w' } (IH m keep [(c,b),(s,.int .i64 k)] g F) w):BI P T n (.loop body) Q F w:=by
 refine HG l m keep c s (λb v w=>∃k:Nat,k<=N/\v=.int .i64 k/\I k b w) (λ_ v _=>N - (Go.RowKit.intOf v).toNat) d ⟨0,by omega,o,h0⟩ ?_;rintro b v g w ⟨k,q,rfl,hi⟩;refine IJ _ _ _ _ _ (p k b g w q hi) ?_ (λ_ _ _ _ h=>h) (λ_ _ _ h=>h) (λ_ _ _ _ h=>h);intro G w' _ h;obtain⟨f,r,t⟩:=h;refine⟨⟨k+1,r,f,t⟩,?_⟩;show N - (Go.RowKit.intOf (G s)).toNat<N - _;rw[f];show N - ((k:Int)+1).toNat<N - ((k:Int)).toNat;omega
theorem fX(p:T.ok P=true)(m:Nat)(keep:List Nat)(d e s:Nat)(N:Nat)(I:Nat->Value->KW){body:Code}{Q:KS}{F:Nat->Value}
  (f:Kb m keep [d,e,s] body=true)(q:F s=.int .i64 0)(h0:I 0 (F d) (F e) w)
  (r:∀(k:Nat) b c g w,k<=N->I k b c w->S P T n body { Q with nrm:=λl w'=>l s=.int .i64 ((k:Int)+1)/\k<N/\I (k+1) (l d) (l e) w' } (IH m keep [(d,b),(e,c),(s,.int .i64 k)] g F) w):BI P T n (.loop body) Q F w:=by
 refine Tp p m keep d e s (λb c v w=>∃k:Nat,k<=N/\v=.int .i64 k/\I k b c w) (λ_ _ v _=>N - (Go.RowKit.intOf v).toNat) f ⟨0,by omega,q,h0⟩ ?_;rintro b c v g w ⟨k,t,rfl,hi⟩;refine IJ _ _ _ _ _ (r k b c g w t hi) ?_ (λ_ _ _ _ h=>h) (λ_ _ _ h=>h) (λ_ _ _ _ h=>h);intro G w' _ h;obtain⟨o,x,y⟩:=h;refine⟨⟨k+1,x,o,y⟩,?_⟩;show N - (Go.RowKit.intOf (G s)).toNat<N - _;rw[o];show N - ((k:Int)+1).toNat<N - ((k:Int)).toNat;omega
end
theorem Cs{α:Type}{l:List α}(h:k<l.length):l.take (k+1)=l.take k++[l[k]]:=QO h
section
variable {P:Program} {w:World}
theorem Nf{t:TypeId}[f:One P t]{x:World}{b o:Nat}{cs:List Value}{e:TypeId}[B:Bk x b cs e][L:Le x w]{k:Value->Prop}{v:Value}(c:Ij cs o=some v)(hd:¬D b)(d:k v):Ar P (Instr.loadAt t (.pointer (some ⟨b,o,none⟩))) D k w:=
 AP (by have:=(Bk.at (w:=w) B).cell o (v:=v) (by rw[<-Dw];exact c);rwa[JO]at this) hd d
theorem MG{t:Nat}[g:FZ P t n]{x:World}{b o:Nat}{cs:List Value}{e:TypeId}[B:Bk x b cs e][L:Le x w]{k:Value->Prop}{ds:List Value}(c:(cs.drop o).take n=ds)(d:ds.length=n)(hd:¬D b)(f:k (.agg ds.toArray)):Ar P (Instr.loadAt t (.pointer (some ⟨b,o,none⟩))) D k w:=
 Ch (by have:=(Bk.at (w:=w) B).sub o n;rw[c,JO]at this;exact this) d hd f
end
section
variable {α:Type} [AK α]
theorem AD.shape{e:TypeId}{v:Value}{l:List α}(h:AD B e w v l):∃a c,v=.slice a l.length c:=h.sl.shape
theorem AD.frc{e o:TypeId}{v:Value}{l:List α}{b:Nat}{cs:List Value}(h:AD B e w v l)(f:Fr (λi=>i=b) w w')(k:Bk w b cs o)(c:e≠o:=by decide):AD B e w' v l:=by
 rcases h with h|h
 ·exact .inl h
 ·refine .inr ⟨h.1,?_⟩;rcases h.2 with q|⟨g,cap,d,rfl,hb,p,rest⟩
  ·exact .inl q
  ·refine .inr ⟨g,cap,d,rfl,hb,f.blk p ?_,rest⟩;rintro rfl;have:=k.h;rw[p]at this;cases this;exact c rfl
theorem Bk.fro{e c:TypeId}{v:Value}{l:List α}{b:Nat}{cs:List Value}(k:Bk w b cs c)(h:AD B e w v l)(f:Fr (AV B v) w w')(d:e≠c:=by decide):Bk w' b cs c:=by
 refine k.fr f λhd=>?_;rcases h with⟨_,a,rfl⟩|h
 ·exact hd.2.2 a rfl
 ·rcases h.2 with⟨rfl,_⟩|⟨g,cap,p,rfl,_,q,_⟩
  ·cases hd.2.1
  ·have o:=hd.2.1;simp only[Value.blk]at o;cases o;have:=k.h;rw[q]at this;cases this;exact d rfl
theorem AD.fro{o:Type}[AK o]{B':Nat}{e p:TypeId}{v q:Value}{l:List α}{l':List o}(h:AD B e w v l)(k:AD B' p w q l')(f:Fr (AV B' q) w w')(c:e≠p:=by decide):AD B e w' v l:=by
 rcases h with h|h
 ·exact .inl h
 ·refine .inr ⟨h.1,?_⟩;rcases h.2 with z|⟨g,cap,d,rfl,hb,r,rest⟩
  ·exact .inl z
  ·refine .inr ⟨g,cap,d,rfl,hb,f.blk r λhd=>?_,rest⟩;rcases k with⟨_,a,rfl⟩|k
   ·exact hd.2.2 a rfl
   ·rcases k.2 with⟨rfl,_⟩|⟨A,t,x,rfl,_,b,_⟩
    ·cases hd.2.1
    ·have y:=hd.2.1;simp only[Value.blk]at y;cases y;rw[r]at b;cases b;exact c rfl
end
theorem zQI{q:Nat->Bool}(h:(Dj q n)[i]? = some k):k<n/\q k=true/\i=(Dj q k).length:=by
 have e:=Jy h;obtain⟨c,d⟩:=cU.1 e;refine⟨c,d,?_⟩;have f:=UD c d;have b:(Dj q n).Nodup:=(Xj).filter _;exact(List.getElem?_inj (Qy.1 h).1 b).1 (by rw[h,f])
theorem zQJ{q:Nat->Bool}(b:j<k)(c:q j=true):(Dj q j).length<(Dj q k).length:=(Qy.1 (UD b c)).1
section
variable {P:Program} {k:KW} {pn:PW} {w:World}
theorem IV{x y:Int}(e:x=y)(h:-9223372036854775808<=y/\y<=9223372036854775807)(b:k (.int .i64 y) w):Ob .i64 x k w:=by
 subst e;exact kY h b
class MR (P:Program) (t:TypeId) (n:outParam Nat) (e:outParam TypeId):Prop where
 h:P.underlying t=some (.array n e)
theorem zPs{t e:TypeId}{z:Value}{sz c:Nat}(d:MR P t N e)(f:AX P e z sz c){b o:Nat}{i:Int}(h0:0<=i)(g:i<N)(w:World):
  (Instr.indexAt t (.pointer (some ⟨b,o,none⟩)) (.int .i64 i)).run P w=.ok (.pointer (some ⟨b,o+i.toNat*sz,none⟩)) w:=by
 obtain⟨j,l,_,p,_⟩:=info_parts f.h;simp[Instr.indexAt,asIntOf,underlying,d.h,sizeOf,typeInfo,l,p,h0,g,Oj,Instr.sureAddr]
theorem gJ{t:TypeId}[o:BZ P t n]{x:World}{b off:Nat}{cs:List Value}{e:TypeId}[B:Bk x b cs e][L:Le x w]{v:Value}{vs:List Value}(d:v.cells.toList=vs)(g:vs.length=n)(c:off+n<=cs.length)(h:∀u∈vs,u.oneCell'=true)
  (l:∀w',Bk w' b (splice cs off vs) e->Fr (λi=>i=b) w w'->w'.heap.size=w.heap.size->k undef w'):Ed P (Instr.storeAt t (.pointer (some ⟨b,off,none⟩)) v) k pn w:=
 YF (Bk.up B) d g (by simpa using c) h λw' a f s=>l w' ⟨by simpa using a⟩ f s
theorem iA{t:TypeId}[f:One P t]{x:World}{b o:Nat}{cs:List Value}{e:TypeId}[B:Bk x b cs e][L:Le x w]{v:Value}(c:cs[o]? = some v)(d:k v w):AI P (Instr.loadAt t (.pointer (some ⟨b,o,none⟩))) k pn w:=
 Cx (B:=B) (L:=L) (by rw[Dw];exact c) d
theorem SW(cs:List Value)(i:Nat)(v:Value)(h:i<cs.length):splice cs i [v]=cs.set i v:=by
 unfold splice;rw[Vn,if_pos h];simp
theorem Nx.lt{w:World}{b:Nat}(n:Nx w w' b):b<w'.heap.size:=by have:=n.b;have:=n.s;omega
end
section
variable {P:Program} {T:Ce} {n:Nat}
end
section
variable {α:Type}
theorem zQK{l:List α}:((l.drop (Option.getD none 0)).take ((some j).getD l.length - Option.getD none 0))=l.take j:=by simp
theorem lQ{l:List α}:((l.drop ((some j).getD 0)).take (Option.getD none l.length - (some j).getD 0))=l.drop j:=by
 simp only[QP,JQ];exact Qj (by simp)
end
section
variable {α:Type} [AK α] {P:Program} {k:KW} {pn:PW} {w u:World}
theorem eG{t e:TypeId}{z:Value}{b:Nat}[g:DQ P t e][o:AX P e z (AK.sz α) b]{c:Nat}{l:List α}(lo hi:Option Nat)(h:AQ u (.slice a n c) l)(f:lo.getD 0<=hi.getD n)(p:hi.getD n<=n)
  (q:∀a' d,AQ u (.slice a' (hi.getD n - lo.getD 0) d) ((l.drop (lo.getD 0)).take (hi.getD n - lo.getD 0))->k (.slice a' (hi.getD n - lo.getD 0) d) w):AI P (Instr.sliceAt t (.slice a n c) (PB lo) (PB hi) none) k pn w:=by
 have r:n<=c:=by obtain⟨a',d,v,x,_⟩:=h;cases v;exact x
 exact AI.of (Sf g o lo hi f (by omega) w) (q _ _ (h.part _ _ f p))
theorem gO{t e:TypeId}{z:Value}{b:Nat}[g:DQ P t e][o:AX P e z (AK.sz α) b]{k:Value->Prop}{c:Nat}{l:List α}(lo hi:Option Nat)(h:AQ u (.slice a n c) l)(f:lo.getD 0<=hi.getD n)(p:hi.getD n<=n)
  (q:∀a' d,AQ u (.slice a' (hi.getD n - lo.getD 0) d) ((l.drop (lo.getD 0)).take (hi.getD n - lo.getD 0))->k (.slice a' (hi.getD n - lo.getD 0) d)):Ar P (Instr.sliceAt t (.slice a n c) (PB lo) (PB hi) none) D k w:=by
 have r:n<=c:=by obtain⟨a',d,v,x,_⟩:=h;cases v;exact x
 rw[Iv];exact⟨_,λw' _=>Sf g o lo hi f (by omega) w',q _ _ (h.part _ _ f p)⟩
end
theorem RY(s:SV):s.v.oneCell'=true:=rfl
def Fi:Value->SV
 |.slice a n c=>⟨a,n,c⟩
 |_=>⟨none,0,0⟩
theorem NL{α:Type}[AK α]{v:Value}{l:List α}(h:AQ w v l):(Fi v).v=v:=by obtain⟨a,c,rfl⟩:=h.shape;rfl
end Go.W
set_option linter.unusedSimpArgs false
namespace Go.W
open Go
variable {B N i j k m n:Nat} {D:Nat -> Prop} {P:Program} {a a':OA} {s:U8} {u u' w w':World}
inductive OT where
 |nil:OT
 |one:Nat->OT->OT
 |two:Nat->OT->Nat->OT->OT
 |lone:Nat->OT->OT
 |duo:Nat->OT->Nat->OT->OT
 |tri:Nat->OT->Nat->OT->Nat->OT->OT
def OT.deep:OT->Nat->Bool
 |.nil,m=>Nat.beq m 0
 |.one _ t,m=>match m with|0=>false|m+1=>t.deep m
 |.lone _ t,m=>match m with|0=>false|m+1=>t.deep m
 |.two _ t _ t',m=>match m with|0=>false|m+1=>t.deep m && t'.deep m
 |.duo _ t _ t',m=>match m with|0=>false|m+1=>t.deep m && t'.deep m
 |.tri _ t _ t' _ t'',m=>match m with|0=>false|m+1=>t.deep m && t'.deep m && t''.deep m
def BT (tk : Oper -> Bool) (P : Program) (T : Ce) (n : Nat) (D : Nat -> Prop) (all : List Oper) (i : Nat) (ih : (Nat -> Value) -> ((Nat -> Value) -> World -> Prop) -> (List PanicEntry -> World -> Prop) -> World -> Prop)
    (F : Nat -> Value) (k : (Nat -> Value) -> World -> Prop) (pn : List PanicEntry -> World -> Prop) (w : World) : Prop :=
  match Ij all i with
    | none => False
    | some o => match o.guard with
      | none => bif tk o then HF P T D o F (λv => BY n F o.dst v λF' => ih F' k pn w) w
          else IY P T o F (λv w' => Fr D w w' /\ BY n F o.dst v λF' => ih F' k pn w') pn w
      | some (j, want) => match Ij all j with
        | some g => match g.dst with
          | some d => match F d with
            | .bool b => match Nat.blt d n with
              | true => match want with
                | true => EN b
                    (bif tk o then HF P T D o (CQ F d (.bool true)) (λv => BY n (CQ F d (.bool true)) o.dst v λF' => ih F' k pn w) w
                      else IY P T o (CQ F d (.bool true)) (λv w' => Fr D w w' /\ BY n (CQ F d (.bool true)) o.dst v λF' => ih F' k pn w') pn w)
                    (BY n (CQ F d (.bool false)) o.dst undef λF' => ih F' k pn w)
                | false => EN b
                    (BY n (CQ F d (.bool true)) o.dst undef λF' => ih F' k pn w)
                    (bif tk o then HF P T D o (CQ F d (.bool false)) (λv => BY n (CQ F d (.bool false)) o.dst v λF' => ih F' k pn w) w
                      else IY P T o (CQ F d (.bool false)) (λv w' => Fr D w w' /\ BY n (CQ F d (.bool false)) o.dst v λF' => ih F' k pn w') pn w)
              | false => False
            | .tuple _ => BY n F o.dst undef λF' => ih F' k pn w
            | _ => False
          | none => False
        | none => False
def EC (P:Program) (T:Ce) (n:Nat) (D:Nat->Prop) (all:List Oper) (t:OT):(Nat->Value)->((Nat->Value)->World->Prop)->(PW)->World->Prop:=
 OT.rec (motive:=λ_=>(Nat->Value)->((Nat->Value)->World->Prop)->(PW)->World->Prop) (λF k _ w=>k F w) (λi _ ih=>D8 P T n D all i ih)
  (λi _ j _ ih jh F k pn w=>D8 P T n D all i ih F k pn w/\D8 P T n D all j jh F k pn w) (λi _ ih=>BT (λ_=>false) P T n D all i ih)
  (λi _ j _ ih jh F k pn w=>BT (λ_=>false) P T n D all i ih F k pn w/\BT (λ_=>false) P T n D all j jh F k pn w)
  (λi _ j _ q _ ih jh qh F k pn w=>BT (λ_=>false) P T n D all i ih F k pn w/\BT (λ_=>false) P T n D all j jh F k pn w/\BT (λ_=>false) P T n D all q qh F k pn w) t
def Lj (ops:Array Oper) (i:Nat):Bool:=match ops[i]? with|none=>false|some o=>!Ez o
def Ge (ops:Array Oper):OT->Array Bool->Bool
 |.nil,listed=>(Region.ready .any ops listed).isEmpty
 |.one i t,listed=>match ops[i]? with
  |none=>false
  |some o=>(bif Ez o then Region.free .any ops listed i && (Region.ready .any ops listed).contains i else Region.ready .any ops listed==[i]) && Ge ops t (listed.setIfInBounds i true)
 |.lone i t,listed=>(Region.ready .any ops listed==[i]) && Ge ops t (listed.setIfInBounds i true)
 |.duo i t j t',listed=>(Region.ready .any ops listed==[i,j]) && Ge ops t (listed.setIfInBounds i true) && Ge ops t' (listed.setIfInBounds j true)
 |.tri i t j t' q t'',listed=>(Region.ready .any ops listed==[i,j,q]) && Ge ops t (listed.setIfInBounds i true) && Ge ops t' (listed.setIfInBounds j true) && Ge ops t'' (listed.setIfInBounds q true)
 |.two i t j t',listed=>(Region.ready .any ops listed==[i,j]) && Lj ops i && Lj ops j && !Nat.beq i j && Ge ops t (listed.setIfInBounds i true) && Ge ops t' (listed.setIfInBounds j true)
def KV (ops:Array Oper) (t:OT):Bool:=Region.noSelect ops && Fl ops && t.deep ops.size && Ge ops t (Array.replicate ops.size false)
section
variable {P:Program} {T:Ce} {n:Nat}
theorem uM{A : Oper -> Bool}{ops : Array Oper}{x : (Nat -> Value) -> ((Nat -> Value) -> World -> Prop) -> (List PanicEntry -> World -> Prop) -> World -> Prop}{F : Nat -> Value}{k : (Nat -> Value) -> World -> Prop}{l : List PanicEntry -> World -> Prop}{a : Act}(y : FI n F a)
    (h : BT A P T n D ops.toList i x F k l w) : ∃ o, ops[i]? = some o /\
      ((Region.wanted o (yielded ops a.tmps) = true /\ (bif A o then HF P T D o F (λv => BY n F o.dst v λp => x p k l w) w else IY P T o F (λv w' => Fr D w w' /\ BY n F o.dst v λp => x p k l w') l w)) \/
       (Region.wanted o (yielded ops a.tmps) = false /\ BY n F o.dst undef λp => x p k l w)) := by
  unfold BT at h;rw[Dw]at h;split at h
  · exact h.elim
  rename_i o z;have hi : ops[i]? = some o := by simpa using z
  refine⟨o, hi, ?_⟩;split at h
  · rename_i q
    exact .inl ⟨by simp[Region.wanted, q], h⟩
  rename_i j r q;rw[Dw]at h;split at h
  case h_2 => exact h.elim
  case h_1 g hgj =>
  split at h
  case h_2 => exact h.elim
  case h_1 d hd =>
  have f : d < n -> yielded ops a.tmps j = match F d with | .bool b => some b|_ => none := by
    intro hdn;have c : ops[j]? = some g := by simpa using hgj
    have := y.get d (Nat.ne_of_lt (QJ hdn y.le));have E := y.size;simp only[yielded, c, VN, hd]
    have e : a.tmps[d]? = some (F d) := by
      rw[<- this, Jr];rw[QT (by simp_all)]; rfl
    rw[e];cases F d<;>simp
  split at h
  · rename_i b hb
    have C : CQ F d (.bool b) = F := by rw[<- hb]; exact cG F d
    split at h
    case h_2 => exact h.elim
    case h_1 hdn =>
    have t : d < n := by simpa[Nat.blt_eq]using hdn
    have f := f t;simp only[hb]at f
    cases r<;>cases b<;>simp only[EN, C]at h<;>first
      | exact .inl ⟨by simp[Region.wanted, q, f], h⟩
      | exact .inr ⟨by simp[Region.wanted, q, f], h⟩
  · rename_i vs hb
    have f : yielded ops a.tmps j = none := by
      by_cases hdn : d < n
      · rw[f hdn]; simp only[hb]
      · have c : ops[j]? = some g := by simpa using hgj
        have e : a.tmps[d]? = none := Jn (by rw[y.size]; exact Yi hdn);simp only[yielded, c, VN, hd, e]
    exact .inr ⟨by simp[Region.wanted, q, f], h⟩
  · exact h.elim
theorem iC{e:Nat->Bool}{ops:Array Oper}(c:∀t,HM ops.toList t=true->e t=true){o:Oper}(hi:ops[i]? = some o)(t:Nat)(f:Nv o.dst t=true):e t=true:=by
 refine c t ?_;have b:o∈ops.toList:=Jy (i:=i) (by simpa using hi);clear hi;generalize ops.toList=l at b
 induction l with
 |nil=>cases b
 |cons x r d =>
  simp only[HM,VV];rcases Ql.1 b with rfl|b
  ·exact .inl (by unfold PD;rw[f];rfl)
  ·exact .inr (d b)
theorem mH(hT : T.ok P = true){r : Option Nat}(D : Nat -> Prop)(ops : Array Oper)(H : Nat -> Value)(E : Nat -> Bool)(R : ∀ t, HM ops.toList t = true -> E t = true)(k : (Nat -> Value) -> World -> Prop)(y : List PanicEntry -> World -> Prop)(hs : Region.noSelect ops = true)(U : Fl ops = true) :
    ∀ (t : OT) (m : Nat) (b : Array Bool) (F : Nat -> Value) (w : World) (a : Act), t.deep m = true -> FI n F a -> agree E H F -> Ge ops t b = true -> EC P T n D ops.toList t F k y w ->
      Fb P r .any ops (LQ n H E k (λ_ => y)) (Fr D w) m b a w := by
  have g : ∀ (tk : Oper -> Bool) (i : Nat) (t : OT) (m : Nat) (b : Array Bool) (F : Nat -> Value) (w : World) (a : Act), (∀ o, ops[i]? = some o -> tk o = false) -> FI n F a -> agree E H F ->
      (∀ (F : Nat -> Value) (w : World) (a : Act), FI n F a -> agree E H F -> EC P T n D ops.toList t F k y w -> Fb P r .any ops (LQ n H E k (λ_ => y)) (Fr D w) m (b.setIfInBounds i true) a w) ->
      BT tk P T n D ops.toList i (EC P T n D ops.toList t) F k y w ->
      wpOpIn (fw r) 0 P ops (LQ n H E k (λ_ => y)) i (λa' w' => Fr D w w' /\ Fb P r .any ops (LQ n H E k (λ_ => y)) (Fr D w) m (b.setIfInBounds i true) a' w') a w := by
    intro tk i t m b F w a V f h0 G h;obtain⟨o, hi, C⟩ := uM f h;have hk : tk o = false := V o hi
    have step : ∀ {v : Value} {w' : World}, BY n F o.dst v (λK => EC P T n D ops.toList t K k y w') ->
        Fb P r .any ops (LQ n H E k (λ_ => y)) (Fr D w') m (b.setIfInBounds i true) (a.put o.dst v) w' := by
      intro v w' V;obtain⟨K, J, M, W⟩ := f.put V
      exact G K w' _ J (λt I => by
        rw[M t (by cases hd : Nv o.dst t; rfl; have := iC R hi t hd; rw[I]at this; cases this), h0 t I]) W
    unfold wpOpIn;simp only[hi];rcases C with⟨S, C⟩|⟨S, C⟩
    · simp only[hk, cond_false]at C
      simp only[S, if_true];refine NY hT C f (λv w' hv => ?_) (λc w' hc => ⟨F, f, h0, hc⟩);exact⟨hv.1, eS (λu hu => hv.1.trans hu) _ _ _ _ (step hv.2)⟩
    · simp only[S]
      exact⟨λ_ _ => trivial, Fr.refl D w, step C⟩
  intro t
  induction t with
  | nil =>
    intro m b F w a p f h0 x h;obtain rfl := QD p;exact⟨by simpa[Ge]using x, F, f, h0, h⟩
  | one i t G =>
    intro m b F w a p f h0 x h
    cases m with
    | zero => cases p
    | succ m =>
    have p : t.deep m = true := p;have h : BT Ez P T n D ops.toList i (EC P T n D ops.toList t) F k y w := h;obtain⟨o, hi, C⟩ := uM f h;simp only[Ge, hi, Qz]at x
    cases hk : Ez o with
    | false =>
      simp only[hk, cond_false]at x;have A : Region.ready .any ops b = [i] := by simpa using x.1
      refine US A (by simp) (λj hj => ?_);obtain rfl : j = i := by simpa using hj
      exact g Ez j t m b F w a (λo' L => by simp_all) f h0 (λF w a f h0 h => G m _ F w a p f h0 x.2 h) h
    | true =>
      simp only[hk, cond_true]at x C;rw[Qz]at x
      have step : ∀ {v : Value}, BY n F o.dst v (λK => EC P T n D ops.toList t K k y w) ->
          Fb P r .any ops (LQ n H E k (λ_ => y)) (Fr D w) m (b.setIfInBounds i true) (a.put o.dst v) w := by
        intro v V;obtain⟨K, J, M, W⟩ := f.put V
        exact G m _ K w _ p J (λt I => by
          rw[M t (by cases hd : Nv o.dst t; rfl; have := iC R hi t hd; rw[I]at this; cases this), h0 t I]) x.2 W
      have O : ∀ c (a : Act) (w : World) (v : Value), LQ n H E k (λ_ => y) (.panic c) (a.put o.dst v) w -> LQ n H E k (λ_ => y) (.panic c) a w := by
        intro c a w v z;simp only[LQ]at z ⊢;obtain⟨K, J, M, W⟩ := z;have a0 : (a.put o.dst v).tmps.size = a.tmps.size := by cases hd : o.dst<;>simp[Act.put]
        have a1 : (a.put o.dst v).defers = a.defers := by cases hd : o.dst<;>simp[Act.put]
        refine⟨λt => bif Nat.beq t 4294967296 then K 4294967296 else a.tmps.getD t undef, ⟨by rw[<- a0]; exact J.size, J.le, by rw[<- a1]; exact J.defers, λt I => ?_⟩, λt I => ?_, W⟩
        · cases z : Nat.beq t 4294967296 with
          | false => simp only[z, cond_false]
          | true => exact absurd (QD z) I
        · cases z : Nat.beq t 4294967296 with
          | true => simp only[z, cond_true]; rw[<- QD z]; exact M t I
          | false =>
            simp only[z, cond_false];rw[<- M t I, <- J.get t (λe => by simp_all)]
            cases hd : o.dst with
            | none => rfl
            | some d =>
              have a2 : d ≠ t := by
                rintro rfl;have := iC R hi d (by simp[Nv, hd]);rw[I]at this; cases this
              simp[Act.put, Jr, V1, a2]
      rcases C with⟨S, C⟩|⟨S, C⟩
      · obtain⟨v, J, M⟩ := qU hT C
        refine dA U (i := i) (oi := o) (v := v) hi hs x.1.1 x.1.2 (λc a w => O c a w v) (.inl ⟨S, λw' a3 => ?_⟩) (Fr.refl D w) (step M);rw[f.eval]; exact J w' a3
      · exact dA U (i := i) (oi := o) (v := undef) hi hs x.1.1 x.1.2 (λc a w => O c a w undef) (.inr ⟨S, rfl⟩) (Fr.refl D w) (step C)
  | two i t j Q G X =>
    intro m b F w a p f h0 x h
    cases m with
    | zero => cases p
    | succ m =>
    simp only[OT.deep, Qz]at p;have h : D8 P T n D ops.toList i (EC P T n D ops.toList t) F k y w /\ D8 P T n D ops.toList j (EC P T n D ops.toList Q) F k y w := h;simp only[Ge, Qz]at x;obtain⟨⟨⟨⟨⟨A, a4⟩, a5⟩, _⟩, oi⟩, Y⟩ := x;have A : Region.ready .any ops b = [i, j] := by simpa using A
    refine US A (by simp) (λq z => ?_);simp only[Ql, Xf, or_false]at z;rcases z with rfl|rfl
    · exact g Ez q t m b F w a (λo' L => by simpa[Lj, L]using a4) f h0 (λF w a f h0 h => G m _ F w a p.1 f h0 oi h) h.1
    · exact g Ez q Q m b F w a (λo' L => by simpa[Lj, L]using a5) f h0 (λF w a f h0 h => X m _ F w a p.2 f h0 Y h) h.2
  | lone i t G =>
    intro m b F w a p f h0 x h
    cases m with
    | zero => cases p
    | succ m =>
    have p : t.deep m = true := p;have h : BT (λ_ => false) P T n D ops.toList i (EC P T n D ops.toList t) F k y w := h;simp only[Ge, Qz]at x;have A : Region.ready .any ops b = [i] := by simpa using x.1
    refine US A (by simp) (λj hj => ?_);obtain rfl : j = i := by simpa using hj
    exact g (λ_ => false) j t m b F w a (λ_ _ => rfl) f h0 (λF w a f h0 h => G m _ F w a p f h0 x.2 h) h
  | duo i t j Q G X =>
    intro m b F w a p f h0 x h
    cases m with
    | zero => cases p
    | succ m =>
    simp only[OT.deep, Qz]at p;have h : BT (λ_ => false) P T n D ops.toList i (EC P T n D ops.toList t) F k y w /\ BT (λ_ => false) P T n D ops.toList j (EC P T n D ops.toList Q) F k y w := h;simp only[Ge, Qz]at x;obtain⟨⟨A, oi⟩, Y⟩ := x;have A : Region.ready .any ops b = [i, j] := by simpa using A
    refine US A (by simp) (λq z => ?_);simp only[Ql, Xf, or_false]at z;rcases z with rfl|rfl
    · exact g (λ_ => false) q t m b F w a (λ_ _ => rfl) f h0 (λF w a f h0 h => G m _ F w a p.1 f h0 oi h) h.1
    · exact g (λ_ => false) q Q m b F w a (λ_ _ => rfl) f h0 (λF w a f h0 h => X m _ F w a p.2 f h0 Y h) h.2
  | tri i t j Q l Z G X lh =>
    intro m b F w a p f h0 x h
    cases m with
    | zero => cases p
    | succ m =>
    simp only[OT.deep, Qz]at p;have h : BT (λ_ => false) P T n D ops.toList i (EC P T n D ops.toList t) F k y w /\ BT (λ_ => false) P T n D ops.toList j (EC P T n D ops.toList Q) F k y w /\ BT (λ_ => false) P T n D ops.toList l (EC P T n D ops.toList Z) F k y w := h;simp only[Ge, Qz]at x;obtain⟨⟨⟨A, oi⟩, Y⟩, ol⟩ := x;have A : Region.ready .any ops b = [i, j, l] := by simpa using A
    refine US A (by simp) (λq z => ?_);simp only[Ql, Xf, or_false]at z;rcases z with rfl|rfl|rfl
    · exact g (λ_ => false) q t m b F w a (λ_ _ => rfl) f h0 (λF w a f h0 h => G m _ F w a p.1.1 f h0 oi h) h.1
    · exact g (λ_ => false) q Q m b F w a (λ_ _ => rfl) f h0 (λF w a f h0 h => X m _ F w a p.1.2 f h0 Y h) h.2.1
    · exact g (λ_ => false) q Z m b F w a (λ_ _ => rfl) f h0 (λF w a f h0 h => lh m _ F w a p.2 f h0 ol h) h.2.2
theorem WE(l:T.ok P=true)(o:P.follows .mixedOrders=true)(D:Nat->Prop)(t:OT){ops:Array Oper}{Q:KS}{F:Nat->Value}(d:KV ops t=true)
  (h:∀w',AC w w'->w'.heap=w.heap->EC P T n D ops.toList t F Q.nrm (λc w=>∀b,agree (wr (.region i ops true)) F b->Q.pan b c w) w'):BI P T n (.region i ops true) Q F w:=by
 rw[SH];intro md p a q;simp only[KV,Qz]at d;have hd:=mH l (r:=md) D ops F (wr (.region i ops true)) (λt v=>v) Q.nrm (λc w=>∀b,agree (wr (.region i ops true)) F b->Q.pan b c w) d.1.1.1 d.1.1.2 t ops.size (Array.replicate ops.size false) F _ a d.1.2 q (λ_ _=>rfl) d.2 (h _ ⟨Bp.drew w⟩ rfl);refine Jb ?_ (wpIn_region_any o (cK _ _ _ _ hd));intro e a' w' f;cases e<;>simp only[LQ]at f<;>simp only[KS.lift]
 ·exact f
 ·obtain⟨b,x,g,y⟩:=f;exact⟨b,x,g,y b g⟩
end
open AK (enc)
section
variable {P:Program} {k:KW} {pn:PW} {w:World}
theorem Kl{kd:IntKind}{x y:Int}(h0:0<=x)(c:0<y)(b:k (.int kd (x % y)) w):PC kd x y k w:=by
 rw[aD];exact⟨by omega,by rw[Xl h0];exact b⟩
class YL (P:Program) (t:TypeId):Prop where
 h:∃kd,P.underlying t=some (.int kd)
def YE (P:Program) (t:TypeId) (l:List (TypeId×Nat)):Bool:=
 match P.underlying t with
 | some (.struct fs) => decide (fs.toList.map (λf => (f.type, f.offset)) = l) && fs.toList.all (λf => f.name != "_") && !P.stoodInHeld t
 |_=>false
def Tk (d:Nat) (xs ys:Array Value):List (TypeId×Nat)->Sem Bool
 |[]=>pure true
 |(t,o)::r=>do
  let a <-part t xs o
  let b <-part t ys o
  let e <-Op.equalIn d t a b
  if(!e)=true then pure false else Tk d xs ys r
theorem oN(d : Nat)(xs b : Array Value) : ∀ (fs : List Field), fs.all (λf => f.name != "_") = true -> Op.eqFields d xs b fs = Tk d xs b (fs.map λf => (f.type, f.offset))
 |[],_=>rfl
 |f::fs,h=>by
  simp only[Ye,Qz,bne_iff_ne,ne_eq]at h;simp only[Op.eqFields,QS,Tk];rw[if_pos h.1,oN d xs b fs (by simpa using h.2)]
theorem pR{t:TypeId}{l:List (TypeId×Nat)}(h:YE P t l=true)(d:Nat)(xs b:Array Value)(w:World):(Op.equalIn (d+1) t (.agg xs) (.agg b)).run P w=(Tk d xs b l).run P w:=by
 unfold YE at h;split at h
 ·rename_i fs c;simp only[Qz,decide_eq_true_eq,VJ]at h;obtain⟨⟨e,f⟩,g⟩:=h;have o:P.fieldsOf t=fs:=by unfold Program.fieldsOf;rw[c]
  rw[run_equalIn_struct w d t xs b (by simp_all) g,o,oN d xs b fs.toList f,e]
 ·cases h
theorem mQ(d:Nat)(xs b:Array Value)(w:World):(Tk d xs b []).run P w=.ok true w:=rfl
theorem gF{t:TypeId}(b:One P t){cs:Array Value}{o:Nat}{v:Value}(h:cs[o]? = some v)(w:World):(part t cs o).run P w=.ok v w:=by
 unfold part;simp only[Qo,mA b.h,Qh,Jt,if_false,h,Jd]
theorem aB{t:TypeId}[g:One P t][hi:YL P t]{d o:Nat}{xs e:Array Value}{kd:IntKind}{a b:Int}{r:List (TypeId×Nat)}{c:Bool}{w:World}(l:xs[o]? = some (.int kd a))(hb:e[o]? = some (.int kd b))(p:(Tk (d+1) xs e r).run P w=.ok c w):
  (Tk (d+1) xs e ((t,o)::r)).run P w=.ok ((a==b) && c) w:=by
 obtain⟨q,f⟩:=hi.h;unfold Tk;simp only[Qo,gF g l,gF g hb,Qh,run_equalIn_int w d t kd q a b f]
 cases h:(a==b) with
 |true=>simpa using p
 |false=>simp
class UH (P:Program) (t:TypeId) (α:Type) [AK α]:Prop where
 guard:P.eqGuardType P.depth t=false
 eq:∀(d:Nat) (x y:α) (w:World),∃b:Bool,(Op.equalIn (d+8) t (agg x) (agg y)).run P w=.ok b w/\(b=true↔x=y)
variable {α:Type} [AK α]
theorem zQB{t:TypeId}(d:UH P t α){X Y:Operand}(x y:α):∃b:Bool,(b=true↔x=y)/\∀w,(do eqGuard .eql t X Y (agg x) (agg y);binOp .eql t (agg x) (agg y):Sem Value).run P w=.ok (.bool b) w:=by
 classical
 refine⟨decide (x=y),by simp,λw=>?_⟩;obtain⟨b,c,f⟩:=d.eq 9992 x y w
 have:b=decide (x=y):=by
  by_cases e:x=y
  ·rw[f.2 e];simp[e]
  ·cases b with
   |true=>exact absurd (f.1 rfl) e
   |false=>simp[e]
 subst this;rw[Qo,run_eqGuard_agg w .eql t X Y _ _ d.guard,Qh];show(binOp .eql t (.agg _) (.agg _)).run P w=_;rw[run_eql_struct w t];have c:(Op.equalIn 10000 t (.agg (enc x).toArray) (.agg (enc y).toArray)).run P w=.ok _ w:=c;rw[c];rfl
theorem zQC{t:TypeId}(d:UH P t α){X Y:Operand}(x y:α):∃b:Bool,(b=true↔x≠y)/\∀w,(do eqGuard .neq t X Y (agg x) (agg y);binOp .neq t (agg x) (agg y):Sem Value).run P w=.ok (.bool b) w:=by
 classical
 refine⟨!decide (x=y),by simp,λw=>?_⟩;obtain⟨b,c,f⟩:=d.eq 9992 x y w
 have:b=decide (x=y):=by
  by_cases e:x=y
  ·rw[f.2 e];simp[e]
  ·cases b with
   |true=>exact absurd (f.1 rfl) e
   |false=>simp[e]
 subst this;rw[Qo,run_eqGuard_agg w .neq t X Y _ _ d.guard,Qh];show(binOp .neq t (.agg _) (.agg _)).run P w=_;rw[run_neq_struct w t];have c:(Op.equalIn 10000 t (.agg (enc x).toArray) (.agg (enc y).toArray)).run P w=.ok _ w:=c;rw[c];rfl
theorem eF{t:TypeId}(α:Type)[AK α][c:UH P t α]{X Y:Operand}{k:Value->Prop}(x y:α)(d:x=y->k (.bool true))(f:x≠y->k (.bool false)):Ar P (do eqGuard .eql t X Y (agg x) (agg y);binOp .eql t (agg x) (agg y)) D k w:=by
 obtain⟨b,hb,g⟩:=zQB c (X:=X) (Y:=Y) x y;rw[Iv];refine⟨_,λw' _=>g w',?_⟩
 cases b with
 |true=>exact d (hb.1 rfl)
 |false=>exact f λe=>by simp_all
theorem YQ{t:TypeId}(α:Type)[AK α][c:UH P t α]{X Y:Operand}{k:Value->Prop}(x y:α)(d:x≠y->k (.bool true))(f:x=y->k (.bool false)):Ar P (do eqGuard .neq t X Y (agg x) (agg y);binOp .neq t (agg x) (agg y)) D k w:=by
 obtain⟨b,hb,g⟩:=zQC c (X:=X) (Y:=Y) x y;rw[Iv];refine⟨_,λw' _=>g w',?_⟩
 cases b with
 |true=>exact d (hb.1 rfl)
 |false=>exact f (Q2.1 λe=>by simp_all)
theorem ET{t e:TypeId}{z:Value}{sz d:Nat}[v:DQ P t e][y:AX P e z sz d](f:AK.sz α=sz){k:Value->Prop}{c:Nat}{l:List α}{x:α}(h:AD B e w (.slice a n c) l)(hi:l[i]? = some x)
  (A:∀g,Value.blk (.slice a n c)=some g->B<=g->At w g (i*sz) (enc x)->k (.pointer (some ⟨g,i*sz,none⟩))):Ar P (Instr.indexAt t (.slice a n c) (.int .i64 i)) D k w:=by
 have C:i<l.length:=(Qy.1 hi).1;obtain⟨g,E,rfl,rfl,hb,I,F,G,H,p⟩:=h.blk (by intro h0;subst h0;simp at C);rw[Iv];refine⟨_,λw' _=>YO v y (b:=g) (o:=0) (by omega) (by omega) w',?_⟩;obtain⟨_,b,o,q,r⟩:=h.sl.at hi;cases q;subst f;have:=A g rfl hb (by simpa using r);simpa using this
theorem Bk.notOwn{B':Nat}{e d:TypeId}{v:Value}{l:List α}{b:Nat}{cs:List Value}(k:Bk w b cs d)(h:AD B e w v l)(c:e≠d:=by decide):¬AV B' v b:=by
 intro hd;rcases h with⟨_,a,rfl⟩|h
 ·exact hd.2.2 a rfl
 ·rcases h.2 with⟨rfl,_⟩|⟨g,cap,o,rfl,_,p,_⟩
  ·cases hd.2.1
  ·have f:=hd.2.1;simp only[Value.blk]at f;cases f;have:=k.h;rw[p]at this;cases this;exact c rfl
class Od (P:Program) (t:TypeId):Prop where
 h:∃e,P.underlying t=some (.pointer e)
theorem zHo(d:Nat){t e:TypeId}(b:P.underlying t=some (.pointer e))(p:OA)(w:World):(Op.equalIn (d+1) t (.pointer p) (.pointer none)).run P w=.ok p.isNone w:=by
 cases p<;>simp[Op.equalIn,run_underlying b]
theorem zPv{t:TypeId}(b:Od P t){X Y:Operand}(p:OA)(w:World):(do eqGuard .eql t X Y (.pointer p) (.pointer none);binOp .eql t (.pointer p) (.pointer none):Sem Value).run P w=.ok (.bool p.isNone) w:=by
 obtain⟨e,c⟩:=b.h;have g:(eqGuard .eql t X Y (.pointer p) (.pointer none)).run P w=.ok () w:=rfl;rw[Qo,g,Qh];simp only[binOp];rw[Qo]
 have:(Op.equal t (.pointer p) (.pointer none)).run P w=.ok p.isNone w:=by
  exact zHo 9999 c p w
 rw[this];rfl
theorem Dy{t:TypeId}[b:Od P t]{X Y:Operand}{p:OA}(c:k (.bool p.isNone) w):AI P (do eqGuard .eql t X Y (.pointer p) (.pointer none);binOp .eql t (.pointer p) (.pointer none)) k pn w:=
 AI.of (zPv b p w) c
end
def Gw (w w':World):Prop:=∃q os,w'=Go.Sort.grow (w.drewN q) os
theorem Gw.refl(w:World):Gw w w:=⟨0,#[],by simp[World.drewN]⟩
theorem Gw.trans{a b c:World}(h:Gw a b)(k:Gw b c):Gw a c:=by
 obtain⟨q,os,rfl⟩:=h;obtain⟨e,d,rfl⟩:=k;exact⟨q+e,os++d,by simp[World.drewN,Go.Sort.grow,Nat.add_assoc,Array.append_assoc]⟩
theorem Nx.gw{b:Nat}(n:Nx w w' b):Gw w w':=by
 obtain⟨o,rfl⟩:=n.g;exact⟨0,#[o],by rw[Go.Sort.alloc_eq_grow];rfl⟩
theorem Gw.ext(h:Gw w w'):Bp w w':=by
 obtain⟨q,os,rfl⟩:=h;exact⟨rfl,rfl,rfl,by simp[Go.Sort.grow,World.drewN],λb hb _=>by simp only[Go.Sort.grow,World.drewN];exact Xn hb,λb o hb _=>by simp only[Go.Sort.grow,World.drewN];rw[Xn (Ad hb)];exact hb⟩
section
variable {α:Type} [AK α] {P:Program} {T:Ce} {n:Nat} {k:KW} {pn:PW} {w:World}
theorem OZ{t e:TypeId}{z:Value}{sz c:Nat}[g:DQ P t e][h:AX P e z sz c](xs:List α)(d:AK.sz α=sz){n:Nat}{vs:List Value}(l:vs.map (λv=>v.cells.toList)=xs.map enc)(f:xs.length=n)(hb:n*sz<=16777216)
  (o:∀b w',Nx w w' b->AQ w' (.slice (some ⟨b,0,none⟩) n n) xs->k (.slice (some ⟨b,0,none⟩) n n) w'):AI P (Instr.buildSlice t n (E0 vs 0).toArray) k pn w:=
 AI.of (RS g h d l f hb w) (o _ _ (Nx.mk' w _) ((Lk.mk' w _ e).sl (by simp) f))
theorem HO(l:T.ok P=true)(o:P.follows .mixedOrders=true)(D:Nat->Prop)(t:OT){ops:Array Oper}{Q:KS}{F:Nat->Value}{w:World}(d:KV ops t=true)
  (h:∀w',AC w w'->Gw w w'->EC P T n D ops.toList t F Q.nrm (λc w=>∀b,agree (wr (.region i ops true)) F b->Q.pan b c w) w'):BI P T n (.region i ops true) Q F w:=by
 rw[SH];intro md p a q;simp only[KV,Qz]at d;have hd:=mH l (r:=md) D ops F (wr (.region i ops true)) (λt v=>v) Q.nrm (λc w=>∀b,agree (wr (.region i ops true)) F b->Q.pan b c w) d.1.1.1 d.1.1.2 t ops.size (Array.replicate ops.size false) F _ a d.1.2 q (λ_ _=>rfl) d.2 (h { w with drawn:=w.drawn+1 } ⟨Bp.drew w⟩ ⟨1,#[],by simp[World.drewN]⟩);refine Jb ?_ (wpIn_region_any o (cK _ _ _ _ hd));intro e a' w' f;cases e<;>simp only[LQ]at f<;>simp only[KS.lift]
 ·exact f
 ·obtain⟨b,x,g,y⟩:=f;exact⟨b,x,g,y b g⟩
end
def N3 (P:Program) (t:TypeId) (name:String) (f:FuncId) (ptr:Bool) (e:TypeId):Bool:=
 match P.info? t with
 |some i=>(match i.methods.find? (·.name==name) with
  |some m=>m.path.toList.isEmpty && (match m.func with|some (g,p)=>Nat.beq g f && (p==ptr)|none=>false)
  |none=>false) && (match P.underlying t with|some (.pointer e')=>Nat.beq e' e|_=>false)
 |none=>false
class HK (P:Program) (t:TypeId) (name:String) (f:outParam FuncId):Prop where
 h:∃e,N3 P t name f true e=true
class Ky (P:Program) (t:TypeId) (name:String) (f:outParam FuncId) (e:outParam TypeId):Prop where
 h:N3 P t name f false e=true
section
variable {P:Program} {k:KW} {pn:PW} {w:World}
theorem nO{t:TypeId}{name:String}{f:FuncId}{b:Bool}{e:TypeId}(h:N3 P t name f b e=true):
  ∃i m,P.info? t=some i/\i.methods.find? (·.name==name)=some m/\m.path.toList=[]/\m.func=some (f,b)/\P.underlying t=some (.pointer e):=by
 unfold N3 at h;split at h
 ·rename_i i hi;rw[Qz]at h;obtain⟨d,l⟩:=h;split at d
  ·rename_i m o;rw[Qz]at d;obtain⟨q,c⟩:=d;split at c
   ·rename_i g p r;simp only[Qz,beq_iff_eq]at c;split at l
    ·rename_i v x;obtain rfl:=QD c.1;obtain rfl:=c.2;obtain rfl:=QD l;exact⟨i,m,hi,o,by simp_all⟩
    ·cases l
   ·cases c
  ·cases d
 ·cases h
theorem nN{t:TypeId}{i:TypeInfo}(_:P.info? t=some i):∃n,P.types.size+Made.depth=n+1:=by
 have:0<Made.depth:=by decide
 exact⟨P.types.size+Made.depth - 1,by omega⟩
theorem zOr{t:TypeId}{name:String}{f:FuncId}(b:HK P t name f)(v:Value)(w:World):(method (P.types.size+Made.depth) t v name).run P w=.ok (f,v) w:=by
 obtain⟨e,h⟩:=b.h;obtain⟨i,m,hi,c,d,g,l⟩:=nO h;obtain⟨n,o⟩:=nN hi;rw[o];unfold method;simp[typeInfo,hi,c,d,g,follow,receiverAt,underlying,l,Place.get]
theorem eL{o:Oper}{F:Nat->Value}{c:Call}{r:Operand}{name:String}{t:TypeId}{v:Value}{f:FuncId}{vs:List Value}
  (d:o.op=.call c)(g:c.callee=.invoke r name)(l:ev F r=.iface t v)(p:IE F c.args.toList=vs)[q:HK P t name f](h:Gz P f (v::vs).toArray k pn w):DT P (execOp (ev F) o) k pn w:=by
 have b:c.args.map (ev F)=vs.toArray:=by rw[<-p,RN]
 rw[Us]at h
 have e:(execOp (ev F) o).run P w=.ok (.enter f (v::vs).toArray) w:=by
  unfold execOp;simp only[d,resolve,g,l,b];simp only[pure_bind,invoke];have h0:(#[Value.iface t v]++vs.toArray)[0]? = some (Value.iface t v):=by simp
  simp only[h0];have x:(#[Value.iface t v]++vs.toArray).extract 1 (#[Value.iface t v]++vs.toArray).size=vs.toArray:=by simp
  rw[x];unfold callMethod;simp only[Qo,run_program,Qh,zOr q];rw[UI h.1];simp
 rw[Si,e];exact⟨h⟩
theorem zPy(t : TypeId)(a : Addr)(b : String)(w : World) : (Builtin.ssaWrapNilChk_ #[t] t #[.pointer (some a), strVal "", strVal b]).run P w = .ok (.pointer (some a)) w := rfl
theorem zOt{t e:TypeId}(b:P.underlying t=some (.pointer e)){a:Addr}{u:Value}{w:World}(c:(loadVar e a).run P w=.ok u w)(d:String):(receiverAt t (.val (.pointer (some a))) false (some d)).run P w=.ok u w:=by
 unfold receiverAt;simp only[Qo,underlying,run_program,Qh,b,Place.get,Jd,zPy,asAddr,c]
theorem zOs{t e:TypeId}{name:String}{f:FuncId}(c:Ky P t name f e){a:Addr}{u:Value}{w:World}(d:(loadVar e a).run P w=.ok u w):(method (P.types.size+Made.depth) t (.pointer (some a)) name).run P w=.ok (f,u) w:=by
 obtain⟨i,m,hi,g,q,l,o⟩:=nO c.h;obtain⟨n,p⟩:=nN hi;rw[p];unfold method;have b:m.path=#[]:=by simp_all
 simp[typeInfo,hi,g,l,follow,b];rw[zOt o d];rfl
theorem YN{o:Oper}{F:Nat->Value}{c:Call}{r:Operand}{name:String}{t e:TypeId}{a:Addr}{f:FuncId}{vs:List Value}
  (d:o.op=.call c)(g:c.callee=.invoke r name)(l:ev F r=.iface t (.pointer (some a)))(p:IE F c.args.toList=vs)[q:Ky P t name f e](h:I1 P e a (λu=>Gz P f (u::vs).toArray k pn w) w):DT P (execOp (ev F) o) k pn w:=by
 have b:c.args.map (ev F)=vs.toArray:=by rw[<-p,RN]
 obtain⟨u,v,h⟩:=h.out;rw[Us]at h
 have e:(execOp (ev F) o).run P w=.ok (.enter f (u::vs).toArray) w:=by
  unfold execOp;simp only[d,resolve,g,l,b];simp only[pure_bind,invoke];have h0:(#[Value.iface t (.pointer (some a))]++vs.toArray)[0]? = some (Value.iface t (.pointer (some a))):=by simp
  simp only[h0];have x:(#[Value.iface t (.pointer (some a))]++vs.toArray).extract 1 (#[Value.iface t (.pointer (some a))]++vs.toArray).size=vs.toArray:=by simp
  rw[x];unfold callMethod;simp only[Qo,run_program,Qh,zOs q v];rw[UI h.1];simp
 rw[Si,e];exact⟨h⟩
end
def Nn (P:Program) (t:TypeId):Bool:=match P.underlying t with|some (.interface _)=>false|some _=>true|none=>false
class Ik (P:Program) (t:TypeId):Prop where
 h:Nn P t=true:=by kernel_rfl
section
variable {P:Program} {k:KW} {pn:PW} {w:World}
theorem oM{t:TypeId}(b:Ik P t)(x:Value)(w:World):(Instr.makeInterface t x).run P w=.ok (.iface t x) w:=by
 have h:=b.h;unfold Nn at h;unfold Instr.makeInterface;simp only[Qo,underlying,run_program,Qh]
 cases hd:P.underlying t with
 |none=>rw[hd]at h;cases h
 |some d =>
  rw[hd]at h;cases d<;>first|rfl|cases h
theorem Hm{t:TypeId}[b:Ik P t]{x:Value}(c:k (.iface t x) w):AI P (Instr.makeInterface t x) k pn w:=AI.of (oM b x w) c
theorem UR{t:TypeId}[b:Ik P t]{x:Value}{k:Value->Prop}(c:k (.iface t x)):Ar P (Instr.makeInterface t x) D k w:=by
 rw[Iv];exact⟨_,λw' _=>oM b x w',c⟩
theorem Ue{t:TypeId}(b:Ik P t)(v:Value)(u:TypeId)(w:World):(Instr.typeAssert (.iface t v) u t true).run P w=.ok (.tuple #[v,.bool true]) w:=by
 have h:=b.h;unfold Nn at h;unfold Instr.typeAssert;simp only[Qo,underlying,run_program,Qh]
 cases hd:P.underlying t with
 |none=>rw[hd]at h;cases h
 |some d =>
  rw[hd]at h;cases d<;>first|(simp;done)|cases h
theorem Tu{t u:TypeId}[b:Ik P t]{v:Value}(c:k (.tuple #[v,.bool true]) w):AI P (Instr.typeAssert (.iface t v) u t true) k pn w:=AI.of (Ue b v u w) c
end
section
variable {α:Type} [AK α] {P:Program} {k:KW} {pn:PW} {w:World}
theorem AD.cut{e:TypeId}{c:Nat}{l:List α}(h:AD B e w (.slice a n c) l)(q:m<=n)(r:l≠[]):AD B e w (.slice a m c) (l.take m)/\∃g,a=some ⟨g,0,none⟩:=by
 obtain⟨g,d,rfl,rfl,hb,t,v,f,o,b⟩:=h.blk r;have p:(l.take m).length=m:=by simp_all
 refine⟨.inr ⟨KZ _,.inr ⟨g,c,d,by rw[p],hb,t,by rw[p];omega,f,o,?_⟩⟩,g,rfl⟩;rw[p,ZT,<-b,Xz,VB (Ji _ q)]
theorem wQ{t e:TypeId}{z:Value}{sz b:Nat}(d:DQ P t e)(f:AX P e z sz b){g c:Nat}(h:m<=c)(w:World):
  (Instr.sliceAt t (.slice (some ⟨g,0,none⟩) n c) none (some (.int .i64 m)) none).run P w=.ok (.slice (some ⟨g,0,none⟩) m c) w:=by
 have:=Sf d f (a:=some ⟨g,0,none⟩) (n:=n) (c:=c) none (some m) (by simp) (by simpa using h) w;simp only[JQ,QP,JF,Nat.zero_mul,JD,Oj,Xy]at this;rw[ite_self]at this;exact this
theorem PF{t e:TypeId}{z:Value}{sz b:Nat}[d:DQ P t e][f:AX P e z sz b]{g c:Nat}(h:m<=c)(l:k (.slice (some ⟨g,0,none⟩) m c) w):
  AI P (Instr.sliceAt t (.slice (some ⟨g,0,none⟩) n c) none (some (.int .i64 m)) none) k pn w:=AI.of (wQ d f h w) l
theorem hG{t e:TypeId}{z:Value}{sz b:Nat}[d:DQ P t e][f:AX P e z sz b]{k:Value->Prop}{g c:Nat}(h:m<=c)(l:k (.slice (some ⟨g,0,none⟩) m c)):
  Ar P (Instr.sliceAt t (.slice (some ⟨g,0,none⟩) n c) none (some (.int .i64 m)) none) D k w:=by rw[Iv];exact⟨_,λw' _=>wQ d f h w',l⟩
end
theorem Fr.new{E:Nat->Prop}{a b c:World}(h:Fr D a b)(k:Fr E b c)(hd:∀i,E i->a.heap.size<=i):Fr D a c:=
 ⟨k.os.trans h.os,k.tape.trans h.tape,k.output.trans h.output,Qw h.size k.size,λi hi e=>(k.block i (QJ hi h.size) λf=>by have:=hd i f;omega).trans (h.block i hi e),λi o hi d=>k.nc i o (h.nc i o hi d) d⟩
abbrev Fh:TypeId:=4294967296
def ZN:Obj->Option TypeId
 |.cells _ e _=>some e
 |.map _ _=>some Fh
 |_=>none
def Ty (B:Nat) (es:List TypeId) (w:World):Nat->Prop:=λi=>B<=i/\∃o e,w.heap[i]? = some o/\ZN o=some e/\e∈es
theorem Ty.cells{es:List TypeId}{cs:Array Value}{e:TypeId}{z:Nat×Nat}(h:Ty B es w i)(c:w.heap[i]? = some (.cells cs e z)):e∈es:=by
 obtain⟨_,o,g,b,d,f⟩:=h;rw[c]at b;cases b;cases d;exact f
theorem Ty.map{es:List TypeId}{m:Array MapEntry}{c:Nat}(h:Ty B es w i)(d:w.heap[i]? = some (.map m c)):Fh∈es:=by
 obtain⟨_,o,g,b,e,f⟩:=h;rw[d]at b;cases b;cases e;exact f
theorem Ty.mk{es:List TypeId}{cs:Array Value}{e:TypeId}{z:Nat×Nat}(b:B<=i)(c:w.heap[i]? = some (.cells cs e z))(d:e∈es):Ty B es w i:=⟨b,_,e,c,rfl,d⟩
theorem Ty.mkM{es:List TypeId}{m:Array MapEntry}{c:Nat}(b:B<=i)(d:w.heap[i]? = some (.map m c))(e:Fh∈es):Ty B es w i:=⟨b,_,Fh,d,rfl,e⟩
abbrev BQ (B:Nat) (es:List TypeId) (w w':World):Prop:=Fr (Ty B es w) w w'
theorem BQ.refl(B:Nat)(es:List TypeId)(w:World):BQ B es w w:=Fr.refl _ w
theorem BQ.trans{es:List TypeId}{a b c:World}(h:BQ B es a b)(k:BQ B es b c):BQ B es a c:=by
 refine⟨k.os.trans h.os,k.tape.trans h.tape,k.output.trans h.output,Qw h.size k.size,λi hi hd=>?_,λi o hi d=>k.nc i o (h.nc i o hi d) d⟩;have e:=h.block i hi hd;rw[k.block i (QJ hi h.size) (λ⟨f,o,t,g,l⟩=>hd ⟨f,o,t,by simp_all⟩),e]
theorem BQ.mono{B':Nat}{es c:List TypeId}{a b:World}(h:BQ B es a b)(d:B'<=B)(f:∀e∈es,e∈c):BQ B' c a b:=
 Fr.mono h λ_ _ ⟨g,o,t,l,p,q⟩=>⟨Qw d g,o,t,l,p,f t q⟩
theorem BQ.ext{es:List TypeId}{a b:World}(h:Bp a b):BQ B es a b:=h.fr
theorem BQ.st{es:List TypeId}{a b c:World}(h:Bp a b)(k:BQ B es b c)(d:a.heap.size<=B):Bp a c:=Fr.st h k λ_ hi=>Qw d hi.1
theorem Bk.kept{es:List TypeId}{b:Nat}{cs:List Value}{e:TypeId}(k:Bk w b cs e)(f:BQ B es w w')(c:e∉es):Bk w' b cs e:=by
 exact k.fr f λhd=>c (hd.cells k.h)
theorem Bk.wrote{es:List TypeId}{b:Nat}{cs:List Value}{e:TypeId}(k:Bk w b cs e)(f:Fr (λi=>i=b) w w')(c:B<=b)(d:e∈es):BQ B es w w':=
 f.mono λi _ hi=>by subst hi;exact .mk c k.h d
section
variable {α:Type} [AK α]
theorem AD.kept{C:Nat}{es:List TypeId}{e:TypeId}{v:Value}{l:List α}(h:AD C e w v l)(f:BQ B es w w')(d:e∉es):AD C e w' v l:=by
 rcases h with h|h
 ·exact .inl h
 ·refine .inr ⟨h.1,?_⟩;rcases h.2 with o|⟨g,cap,b,rfl,hb,c,rest⟩
  ·exact .inl o
  ·refine .inr ⟨g,cap,b,rfl,hb,f.blk c λhd=>d (hd.cells c),rest⟩
theorem AD.wrote{C:Nat}{es:List TypeId}{e:TypeId}{v:Value}{l:List α}(h:AD C e w v l)(f:Fr (AV C v) w w')(c:B<=C)(d:e∈es):BQ B es w w':=by
 refine f.mono λi hi hd=>?_;rcases h with⟨_,a,rfl⟩|h
 ·exact absurd rfl (hd.2.2 a)
 ·rcases h.2 with⟨rfl,_⟩|⟨g,cap,o,rfl,hb,p,_⟩
  ·cases hd.2.1
  ·have b:=hd.2.1;simp only[Value.blk]at b;cases b;exact .mk (Qw c hb) p d
theorem AQ.kept{es:List TypeId}{v:Value}{l:List α}(h:AQ w v l)(f:BQ B es w w')(hb:∀b,Value.blk v=some b->b<B):AQ w' v l:=
 h.fr f λb c hd=>by have:=hb b c;have:=hd.1;omega
end
theorem BQ.ne{es:List TypeId}{b:Nat}{cs:List Value}{e:TypeId}(f:BQ B es w w')(k:Bk w b cs e)(c:e∉es):Fr (λi=>i≠b) w w':=
 Fr.mono f λi _ hi=>by
  rintro rfl;exact c (hi.cells k.h)
section
variable {P:Program} {k:KW} {pn:PW} {w:World}
end
section
variable {α:Type} [AK α] {P:Program} {k:KW} {pn:PW} {w:World}
theorem FR{t ty e:TypeId}{z:Value}{sz b:Nat}[f:DQ P t e][g:AX P e z sz b]{v x:Value}{l m:List α}(c:AK.sz α=sz/\z.cells.size=sz)
  (h:AD B e w v l)(o:AQ w x m)(p:B<=w.heap.size)(hb:(l.length+m.length)*b<=140737488355328/\l.length+m.length<=9223372036854775807)
  (q:∀d w',AD B e w' d (l++m)->Fr (AV B v) w w'->k d w'):AI P (Builtin.append_ #[t,t] ty #[v,x]) k pn w:=by
 obtain⟨d,w',r,y,A⟩:=Yf (ty:=ty) f g c.1 c.2 h o hb.1 (by unfold maxLen;omega) p;exact AI.of r (q _ _ y A)
end
end Go.W
